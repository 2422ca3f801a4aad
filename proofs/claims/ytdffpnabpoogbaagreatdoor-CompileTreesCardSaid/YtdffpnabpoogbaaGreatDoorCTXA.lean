/- Walks of functions and plain facts, joined and squeezed by a program. Conditions: as each says. -/
import Derived.Test.YtdffpnabpoogbaaGreatDoorRows
import Derived.WalkKit
import Derived.WalkSpells
import Derived.WalkLawsBesides
import Derived.Deep.QuietTactic
import Derived.BigQuiet
import Derived.Lib.Hide
import Derived.Maps.OwnSet
import Derived.Deep.Quiet
import Derived.Laws.Small
import Derived.Maps.Own
import Derived.Maps.OwnOps
import Derived.Maps.Views
import Derived.SizedLaws
import Derived.ProofKit
import Derived.OpenShut
import Derived.Deep.Slices
import Derived.ChangeSlices
import Derived.WideKeyArgs
import Derived.LaidEql
import Derived.Stop.Asserts
import Derived.RowKitTokens
import Derived.Test.YtdffpnabpoogbaaGreatDoorCTX0
set_option maxHeartbeats 8000000
set_option maxRecDepth 100000
set_option linter.unusedSimpArgs false
open Go.Proofs.Tryz
namespace Go.Cm
theorem ZmA0{P:Prop}(h:P:=by
 have HY:Hid ((0<=row.getD j 0/\row.getD j 0<d.next.length)->∀q,q<j+1->0<=row.getD q 0/\row.getD q 0<d.next.length):=qa (fun h q hq=>by
  rcases Nat.lt_succ_iff_lt_or_eq.1 hq with h1|rfl
  ·exact HJ.o q h1
  exact h)
 generalize row.getD j 0=y at*;by_cases hy:0<=y/\y<d.next.length
 ·obtain⟨y1,y2⟩:=hy
  go_wp2
  go_round
  case rel=>exact⟨j+1,by omega,by go_num,HY.o ⟨y1,y2⟩⟩
  case measure=>simp[intOf];omega
 by_cases y1:y<0
 ·go_wp2
  all_goals go_ret
  all_goals exact⟨dT (bN fun hv=>hy (HX.o hv)).symm,(aI aJ)⟩
 have y2:(d.next.length:Int)<=y:=by omega
 go_wp2
 all_goals go_ret
 all_goals exact⟨dT (bN fun hv=>hy (HX.o hv)).symm,(aI aJ)⟩):P:=h
theorem ZmA1{P:Prop}(h:P:=by
 go_wp2_with(first|(refine dQ rfl _ rfl w.heap.size rfl A HS.o HG.o ?_)|(go_at_call 216;refine(HL.o _ (aA _ _)).mono ?_;rintro e w' ⟨rfl,x,rfl⟩))
 all_goals go_ret
 all_goals exact⟨dT (bN HF.o).symm,(aI aJ)⟩):P:=h
theorem ZmA2{P:Prop}(h:P:=by
 have:∀(l:List α) (ks:List α) (js:List β),js.length<=ks.length->(∀x∈ks,f x∈js)->((l.map f).foldl aW js).length<=(l.foldl aW ks).length:=by
  intro l
  induction l with
  |nil=>intro ks js h _;exact h
  |cons a l ih=>
   intro ks js h hk;simp only[qF,qH];refine ih _ _ ?_ ?_
   ·unfold aW
    by_cases ha:a∈ks
    ·rw[qt ha,qt (hk a ha)];exact h
    rw[qr ha];split<;>simp<;>omega
   intro x hx;rcases cN.1 hx with h1|rfl
   ·exact cN.2 (.inl (hk x h1))
   exact cN.2 (.inr rfl)
 exact this l [] [] (qb _) (fun x hx=>by cases hx)):P:=h
theorem ZmA3{P:Prop}(h:P:=by
 go_wp2
 all_goals go_ret
 all_goals exact⟨dT (bN HF.o).symm,(aI aJ)⟩):P:=h
theorem ZmA4{P:Prop}(h:P:=by
 intro hm;have e:=h a (hm a (by simp)) s hs;simp only[qF,List.idxOf_cons];by_cases hf:f a=f s
 ·have h1:(f a==f s)=true:=by simpa using hf
  have h2:(g a==g s)=true:=by simpa using e.1 hf
  rw[h1,h2];simp
 have h1:(f a==f s)=false:=by simpa using hf
 have h2:(g a==g s)=false:=by simpa using fun q=>hf (e.2 q)
 rw[h1,h2,ih fun a ha=>hm a (by simp[ha])]):P:=h
theorem ZmA5{P:Prop}(h:P:=by
 have:∀n (l:List α),l.length=n->P l:=by
  intro n
  induction n with
  |zero=>intro l hl;obtain rfl:=List.length_eq_zero_iff.1 hl;exact h0
  |succ n ih=>
   intro l hl;have hne:l≠[]:=by intro e;subst e;cases hl
   have:=List.dropLast_concat_getLast hne;rw[<-this];exact h _ _ (ih _ (by simp[hl]))
 exact this _ l rfl):P:=h
theorem ZmA6{P:Prop}(h:P:=by
 clear hok;go_enter func15,ntmps15;go_wp2
 all_goals go_ret
 all_goals exact⟨dT (bN HF.o).symm,(aI aJ)⟩):P:=h
theorem ZmA7{P:Prop}(h:P:=by
 go_wp2;go_ret;have hkk:k=d.next.length:=by omega
 exact⟨dT (iK ⟨h1,h2,H3.o,n,HN.o,by rw[<-hkk];rw[<-hkk]at HA;exact HA.o⟩).symm,(aI aJ)⟩):P:=h
theorem ZmA8{P:Prop}(h:P:=by rw[World.cell?_alloc_lt _ _ ⟨0,0,none⟩ (by first|(simp;done)|(simp;omega)),World.cell?_alloc_lt _ _ ⟨0,0,none⟩ hlt];exact hg):P:=h
theorem ZmA9{P:Prop}(h:P:=by
 rename_i hw
 simp only[hw,jG]at h1;rcases h1 with h1|⟨-,h1⟩
 ·exact .inl (oU (fun _ _ _ h=>h) wW h1)
 exact(wW h1).elim):P:=h
theorem ZmA10{P:Prop}(h:P:=by simp[Instr.entryStore,MapKept.run_getObj_map hb1,hfi,asInt,asIntOf,Result.andThen,MapKept.run_setObj_map _ hb1,hw2]):P:=h
theorem ZmA11{P:Prop}(h:P:=by rename_i hn;rw[List.nodup_append];exact⟨h,by simp,fun a ha b hb e=>by simp at hb;subst hb;subst e;exact hn ha⟩):P:=h
theorem ZmA12{P:Prop}(h:P:=by
 obtain⟨k,hk⟩:=ih (aW l a);rw[qH,hk];unfold aW;split
 ·exact⟨k,rfl⟩
 exact⟨a::k,by simp⟩):P:=h
theorem ZmA13{P:Prop}(h:P:=by
 rcases List.mem_append.1 h with h|h
 ·exact qZ _ (ih h)
 exact List.mem_append_right _ h):P:=h
theorem ZmA14{P:Prop}(h:P:=by
 rcases List.mem_cons.1 h1 with rfl|h2
 ·exact .inl (cN.2 (.inr rfl))
 exact .inr h2):P:=h
theorem ZmA15{P:Prop}(h:P:=by obtain⟨vs,h1,h2,h3⟩:=h;exact⟨vs,h1.up hb,h2,fun i hi=>(h3 i hi).up hb⟩):P:=h
theorem ZmA16{P:Prop}(h:P:=by
 rcases jO 0 w.heap.size with h|h
 ·exact h
 simp[World.cell?,jr h]at hg):P:=h
structure Dfa where
 cls:List Int
 next:List (List Int)
 rules:List Int
def bE:Nat->List Int->Option Nat
 |n,[]=>some n
 |n,k::l=>if k<0\/(n:Int)<k then none else if k=n then bE (n+1) l else bE n l
def gO(l:List Int):Int:=match bE 0 l with|some n=>n|none=> -1
theorem nH(n:Nat)(l:List Int)(k:Nat)(h:k<l.length):
  bE n (l.drop k)=if l.getD k 0<0\/(n:Int)<l.getD k 0 then none else if l.getD k 0=n then bE (n+1) (l.drop (k+1))else bE n (l.drop (k+1)):=by
 rw[jB h];simp[bE,List.getD,h]
def D4(n:Nat)(k:Nat)(r:Int)(row:List Int):Prop:= -1<=r/\r<32/\row.length=k/\∀j,j<row.length->0<=row.getD j 0/\row.getD j 0<n
def bZ(d:Dfa):Prop:=1<=d.next.length/\d.next.length<=1000/\d.rules.length=d.next.length/\∃k,bE 0 d.cls=some k/\∀i,i<d.next.length->D4 d.next.length k (d.rules.getD i 0) (d.next.getD i [])
open Classical in
noncomputable def zE(d:Dfa):Bool:=decide (bZ d)
theorem iK{d:Dfa}(h:bZ d):zE d=true:=by unfold zE;simpa using h
theorem bN{d:Dfa}(h:¬bZ d):zE d=false:=by unfold zE;simpa using h
def eD(d:Dfa)(at_:Int):List UInt8->Int
 |[]=>at_
 |c::s=>eD d ((d.next.getD at_.toNat []).getD (d.cls.getD c.toNat 0).toNat 0) s
open Classical in
noncomputable def q5Y(d:Dfa)(s:List UInt8):Int:=if bZ d then eD d 0 s else -1
open Classical in
noncomputable def iI(d:Dfa)(s:List UInt8):Int:=if bZ d then d.rules.getD (eD d 0 s).toNat 0 else -1
theorem aY{α:Type}(l:List α)(k:Nat)(d:α)(h:k<l.length):l.take (k+1)=l.take k++[l.getD k d]:=by
 rw[qI h,qq,qv h,qJ]
theorem dH{α:Type}(l:List α)(k:Nat)(d:α)(h:k<l.length):l.getD k d∈l:=by
 simp[List.getD,h]
theorem gP(l:List Int):∀n k,bE n l=some k->n<=k/\k<=n+l.length:=by
 induction l with
 |nil=>intro n k h;simp[bE]at h;simp;omega
 |cons a l ih=>
  intro n k h;simp only[bE]at h;split at h
  ·cases h
  split at h
  ·have:=ih _ _ h;simp only[qx];omega
  have:=ih _ _ h;simp only[qx];omega
theorem pV(l:List Int):∀n k,bE n l=some k->∀x∈l,0<=x/\x<k:=by
 induction l with
 |nil=>intro n k _ x hx;cases hx
 |cons a l ih=>
  intro n k h x hx;simp only[bE]at h;split at h
  ·cases h
  rename_i hn;split at h
  ·have h2:=gP l _ _ h
   rcases List.mem_cons.1 hx with rfl|hx
   ·omega
   exact ih _ _ h x hx
  have h2:=gP l _ _ h;rcases List.mem_cons.1 hx with rfl|hx
  ·omega
  exact ih _ _ h x hx
def nl(l:List Nat):List Int:=l.map fun n:Nat=>(n:Int)
@[simp] theorem lC(l:List Nat):(nl l).length=l.length:=by simp[nl]
theorem tL(l:List Nat)(k:Nat):(nl l).getD k 0=((l.getD k 0:Nat):Int):=by
 simp only[nl,qq,qQ];cases l[k]? <;>simp
theorem rV(a b:List Nat):nl (a++b)=nl a++nl b:=by simp[nl]
theorem q23 {l : List Nat} {n : Nat} : (n : Int) ∈ nl l ↔ n ∈ l := by
  simp only [nl, jy]
  exact ⟨fun ⟨a, h, e⟩ => by have : a = n := by omega
                             exact this ▸ h, fun h => ⟨n, h, rfl⟩⟩
def aS(d:Dfa)(i:Nat):List Nat:=(d.next.getD i []).map Int.toNat
def fO(out:List Nat)(tz:Nat):List Nat:=if tz∈out then out else out++[tz]
def gG(out row:List Nat):List Nat:=row.foldl fO out
def fR(d:Dfa):Nat->Nat->List Nat->List Nat
 |0,_,out=>out
 |f+1,i,out=>if i<out.length then fR d f (i+1) (gG out (aS d (out.getD i 0)))else out
def dW(d:Dfa):List Nat:=fR d (d.next.length+1) 0 [0]
theorem tM(out row:List Nat)(k:Nat)(h:k<row.length):gG out (row.take (k+1))=fO (gG out (row.take k)) (row.getD k 0):=by
 unfold gG;rw[aY row k 0 h,qV];rfl
theorem rW{out:List Nat}{tz:Nat}(h:out.Nodup):(fO out tz).Nodup:=by
 unfold fO;split
 ·exact h
 exact ZmA11
theorem rC{out:List Nat}{tz x:Nat}:x∈fO out tz↔x∈out\/x=tz:=by
 unfold fO;split
 ·rename_i h;exact⟨.inl,fun q=>q.elim id (fun e=>e▸h)⟩
 simp
theorem wM{out:List Nat}{tz:Nat}:out.length<=(fO out tz).length:=by unfold fO;split<;>simp
theorem L4{out:List Nat}{tz i:Nat}(h:i<out.length):(fO out tz).getD i 0=out.getD i 0:=by
 unfold fO;split
 ·rfl
 simp[List.getD,qS h]
theorem uX(row:List Nat):∀out,(out.Nodup->(gG out row).Nodup)/\(∀x,x∈gG out row↔x∈out\/x∈row)/\out.length<=(gG out row).length/\∀i,i<out.length->(gG out row).getD i 0=out.getD i 0:=by
 induction row with
 |nil=>intro out;simp[gG]
 |cons a row ih=>
  intro out;obtain⟨h1,h2,h3,h4⟩:=ih (fO out a);refine⟨fun h=>h1 (rW h),fun x=>?_,qc wM h3,fun i hi=>?_⟩
  ·show x∈gG (fO out a) row↔_
   rw[h2,rC,jJ]
   constructor
   ·rintro((h|h)|h)
    ·exact .inl h
    ·exact .inr (.inl h)
    exact .inr (.inr h)
   rintro(h|h|h)
   ·exact .inl (.inl h)
   ·exact .inl (.inr h)
   exact .inr h
  show(gG (fO out a) row).getD i 0=_;rw[h4 i (qe hi wM),L4 hi]
theorem rD{l:List Nat}{n:Nat}(h:l.Nodup)(hb:∀x∈l,x<n):l.length<=n:=by
 induction n generalizing l with
 |zero=>cases l with
  |nil=>simp
  |cons a l=>exact absurd (hb a (by simp)) (by omega)
 |succ n ih=>
  have h1:(l.filter (· ≠n)).length<=n:=ih (h.filter _) (fun x hx=>by
   have:=hb x (List.mem_filter.1 hx).1;have h2:x≠n:=by simpa using(List.mem_filter.1 hx).2
   omega)
  have h2:l.length<=(l.filter (· ≠n)).length+1:=by
   have qdG:∀(l:List Nat),l.Nodup->l.length<=(l.filter (· ≠n)).length+1:=by
    intro l
    induction l with
    |nil=>intro _;simp
    |cons a l ih=>
     intro hd;rw[List.nodup_cons]at hd;by_cases ha:a=n
     ·have:l.filter (· ≠n)=l:=by
       rw[List.filter_eq_self];intro b hb;have:b≠n:=fun e=>hd.1 (by rw[ha,<-e];exact hb);simpa using this
      rw[jR,qr (by simp[ha]),this];simp
     have:=ih hd.2;simp only[jR,ha,ne_eq,not_false_eq_true,decide_true,jG,qx]at this⊢;omega
   exact qdG l h
  omega
theorem yW(d:Dfa)(i:Nat)(out:List Nat)(h:out.length<=i):∀f,fR d f i out=out
 |0=>rfl
 |f+1=>by simp[fR,Nat.not_lt.2 h]
end Go.Cm
namespace Go.Cm
def aM(d:Dfa)(i c:Nat):Nat:=(aS d i).getD c 0
def q9x(d:Dfa)(i:Nat)(cs:List Nat):Nat:=cs.foldl (aM d) i
def bQ(d:Dfa):Nat:=(d.next.getD 0 []).length
def fW(d:Dfa)(i:Nat):Int:=d.rules.getD i 0
def Eqv(d:Dfa)(i j:Nat):Prop:=∀cs:List Nat,(∀c∈cs,c<bQ d)->fW d (q9x d i cs)=fW d (q9x d j cs)
theorem Eqv.refl(d:Dfa)(i:Nat):Eqv d i i:=fun _ _=>rfl
theorem Eqv.symm{d:Dfa}{i j:Nat}(h:Eqv d i j):Eqv d j i:=fun cs hc=>(h cs hc).symm
theorem Eqv.trans{d:Dfa}{i j k:Nat}(h:Eqv d i j)(g:Eqv d j k):Eqv d i k:=fun cs hc=>(h cs hc).trans (g cs hc)
theorem Eqv.rules{d:Dfa}{i j:Nat}(h:Eqv d i j):fW d i=fW d j:=h [] (fun _ h=>by cases h)
theorem Eqv.step{d:Dfa}{i j:Nat}(h:Eqv d i j){c:Nat}(hc:c<bQ d):Eqv d (aM d i c) (aM d j c):=fun cs hcs=>
 h (c::cs) (fun x hx=>by
  rcases List.mem_cons.1 hx with rfl|h1
  ·exact hc
  exact hcs x h1)
theorem gT{d:Dfa}(h:bZ d){i:Nat}(hi:i<d.next.length){c:Nat}(hc:c<bQ d):aM d i c<d.next.length:=by
 obtain⟨h1,h2,h3,k,hk,hr⟩:=h;have h0:=(hr 0 (by omega)).2.2.1;obtain⟨-,-,hl,hj⟩:=hr i hi;have hc':c<(d.next.getD i []).length:=by unfold bQ at hc;omega
 have:=hj c hc'
 have e:aM d i c=((d.next.getD i []).getD c 0).toNat:=by
  unfold aM aS;simp only[qq,qQ]at hc'⊢;rw[qv hc'];rfl
 rw[e];omega
theorem f8{d:Dfa}(h:bZ d){i:Nat}(hi:i<d.next.length):(d.next.getD i []).length=bQ d:=by
 obtain⟨h1,h2,h3,k,hk,hr⟩:=h;have h0:=(hr 0 (by omega)).2.2.1;have h4:=(hr i hi).2.2.1;unfold bQ;omega
theorem Eqv.of_bisim{d:Dfa}(hv:bZ d)(R:Nat->Nat->Prop)(h:∀i j,i<d.next.length->j<d.next.length->R i j->fW d i=fW d j/\∀c,c<bQ d->R (aM d i c) (aM d j c)){i j:Nat}(hi:i<d.next.length)(hj:j<d.next.length)(hr:R i j):Eqv d i j:=by
 intro cs
 induction cs generalizing i j with
 |nil=>intro _;exact(h i j hi hj hr).1
 |cons c cs ih=>
  intro hcs;have hc:=hcs c (by simp);exact ih (gT hv hi hc) (gT hv hj hc) ((h i j hi hj hr).2 c hc) (fun x hx=>hcs x (by simp[hx]))
def mrk(M:List (List Bool))(i j:Nat):Bool:=(M.getD i []).getD j false
def Z3(M:List (List Bool))(i j:Nat):List (List Bool):=M.set i ((M.getD i []).set j true)
structure Tab(n:Nat)(M:List (List Bool)):Prop where
 len:M.length=n
 row:∀i,i<n->(M.getD i []).length=n
theorem lN{α:Type}(l:List α)(i j:Nat)(x d:α):(l.set i x).getD j d=if i=j/\i<l.length then x else l.getD j d:=by
 simp only[qq,jN];by_cases h:i=j
 ·subst h
  by_cases h2:i<l.length
  ·simp[h2]
  simp[h2]
 simp[h]
theorem Tab.set{n:Nat}{M:List (List Bool)}(h:Tab n M){i j:Nat}(hi:i<n):Tab n (Z3 M i j):=by
 refine⟨by simp[Z3,h.len],fun a ha=>?_⟩;unfold Z3;rw[lN];split
 ·rw[j8];exact h.row i hi
 exact h.row a ha
theorem Z7{n:Nat}{M:List (List Bool)}(h:Tab n M){i j a b:Nat}(hi:i<n)(hj:j<n):mrk (Z3 M i j) a b=if i=a/\j=b then true else mrk M a b:=by
 unfold mrk Z3;rw[lN];by_cases ha:i=a
 ·subst ha
  rw[qt ⟨rfl,by rw[h.len];exact hi⟩,lN];by_cases hb:j=b
  ·subst hb;rw[qt ⟨rfl,by rw[h.row i hi];exact hj⟩,qt ⟨rfl,rfl⟩]
  rw[qr (fun q=>hb q.1),qr (fun q=>hb q.2)]
 rw[qr (fun q=>ha q.1),qr (fun q=>ha q.1)]
def wN(M:List (List Bool)):Nat:=(M.map fun r=>r.count false).sum
theorem L5(r:List Bool)(j:Nat)(hj:j<r.length)(h:r.getD j false=false):(r.set j true).count false+1=r.count false:=by
 induction r generalizing j with
 |nil=>simp at hj
 |cons x r ih=>
  cases j with
  |zero=>simp at h;subst h;simp
  |succ j=>
   have:=ih j (by simpa using hj) (by simpa using h);simp only[List.set_cons_succ,List.count_cons];omega
theorem q24{n:Nat}{M:List (List Bool)}(h:Tab n M){i j:Nat}(hi:i<n)(hj:j<n)(hf:mrk M i j=false):wN (Z3 M i j)+1=wN M:=by
 have hlen:=h.len;have hrow:=h.row i hi;unfold wN Z3;unfold mrk at hf;clear h
 have key:∀(M:List (List Bool)) (i:Nat) (r':List Bool),i<M.length->r'.count false+1=(M.getD i []).count false->((M.set i r').map fun r=>r.count false).sum+1=(M.map fun r=>r.count false).sum:=by
  intro M
  induction M with
  |nil=>intro i r' hi;simp at hi
  |cons x M ih=>
   intro i r' hi hr;cases i with
   |zero=>simp at hr⊢;omega
   |succ i=>
    have:=ih i r' (by simpa using hi) (by simpa using hr);simp only[List.set_cons_succ,qF,List.sum_cons];omega
 exact key M i _ (by omega) (L5 _ j (by omega) hf)
structure L6(d:Dfa)(M:List (List Bool)):Prop where
 tab:Tab d.next.length M
 sound:∀i j,i<d.next.length->j<d.next.length->mrk M i j=true->¬Eqv d i j
 base:∀i j,i<d.next.length->j<d.next.length->fW d i≠fW d j->mrk M i j=true
def oR(d:Dfa)(M:List (List Bool))(i j c:Nat):Prop:=mrk M (aM d i c) (aM d j c)=true->mrk M i j=true
theorem L6.set{d:Dfa}{M:List (List Bool)}(h:L6 d M){i j c:Nat}(hi:i<d.next.length)(hj:j<d.next.length)(hc:c<bQ d)(hv:bZ d)(hm:mrk M (aM d i c) (aM d j c)=true):L6 d (Z3 M i j):=by
 have hne:¬Eqv d i j:=fun e=>h.sound _ _ (gT hv hi hc) (gT hv hj hc) hm (e.step hc);refine⟨h.tab.set hi,fun a b ha hb hab=>?_,fun a b ha hb hab=>?_⟩
 ·rw[Z7 h.tab hi hj]at hab
  split at hab
  ·rename_i q;obtain⟨rfl,rfl⟩:=q;exact hne
  exact h.sound a b ha hb hab
 rw[Z7 h.tab hi hj];split
 ·rfl
 exact h.base a b ha hb hab
def q25(d:Dfa)(M:List (List Bool)):Prop:=Tab d.next.length M/\∀i j,i<d.next.length->j<d.next.length->(mrk M i j=false↔Eqv d i j)
theorem L6.done{d:Dfa}{M:List (List Bool)}(hv:bZ d)(h:L6 d M)(hc:∀i j c,i<d.next.length->j<d.next.length->c<bQ d->oR d M i j c):q25 d M:=by
 refine⟨h.tab,fun i j hi hj=>⟨fun hm=>?_,fun he=>?_⟩⟩
 ·refine Eqv.of_bisim hv (fun a b=>a<d.next.length/\b<d.next.length/\mrk M a b=false) (fun a b ha hb hab=>⟨?_,fun c hcc=>⟨gT hv ha hcc,gT hv hb hcc,?_⟩⟩) hi hj ⟨hi,hj,hm⟩
  ·rcases Classical.em (fW d a=fW d b)with e|e
   ·exact e
   have:=h.base a b ha hb e;rw[hab.2.2]at this;cases this
  cases hq:mrk M (aM d a c) (aM d b c)with
  |false=>rfl
  |true=>have:=hc a b c ha hb hcc hq;rw[hab.2.2]at this;cases this
 cases hq:mrk M i j with
 |false=>rfl
 |true=>exact absurd he (h.sound i j hi hj hq)
section
open Classical
noncomputable def fH(d:Dfa)(k:Nat):List Nat:=(List.range k).filter fun i=>decide (∀j,j<i->¬Eqv d i j)
theorem nQ{d:Dfa}{k:Nat}(h:∀j,j<k->¬Eqv d k j):fH d (k+1)=fH d k++[k]:=by
 unfold fH;rw[jw,List.filter_append,jR,qt (by simpa using h)];simp
theorem pW{d:Dfa}{k:Nat}(h:¬∀j,j<k->¬Eqv d k j):fH d (k+1)=fH d k:=by
 unfold fH;rw[jw,List.filter_append,jR,qr (by simpa using h)];simp
theorem q1g(d:Dfa)(k:Nat):(fH d k).length<=k:=by
 unfold fH;have:=jX (fun i=>decide (∀j,j<i->¬Eqv d i j)) (List.range k);simpa using this
end
end Go.Cm
namespace Go.Cm
section
variable {α : Type} [DecidableEq α]
def aW(ks:List α)(s:α):List α:=if s∈ks then ks else ks++[s]
def eW(l:List α):List α:=l.foldl aW []
theorem cN{ks:List α}{s x:α}:x∈aW ks s↔x∈ks\/x=s:=by
 unfold aW;split
 ·rename_i h;exact⟨.inl,fun q=>q.elim id (fun e=>e▸h)⟩
 simp
theorem uY{ks:List α}{s:α}(h:ks.Nodup):(aW ks s).Nodup:=by
 unfold aW;split
 ·exact h
 exact ZmA11
theorem i6(l:List α)(s:α):eW (l++[s])=aW (eW l) s:=by simp[eW,qV]
theorem tN(l:List α):(eW l).Nodup:=by
 have:∀(l ks:List α),ks.Nodup->(l.foldl aW ks).Nodup:=by
  intro l
  induction l with
  |nil=>intro ks h;exact h
  |cons a l ih=>intro ks h;exact ih _ (uY h)
 exact this l [] List.nodup_nil
theorem dP (l : List α) (x : α) : x ∈ eW l ↔ x ∈ l := by
  have : ∀ (l ks : List α), x ∈ l.foldl aW ks ↔ x ∈ ks ∨ x ∈ l := by
    intro l
    induction l with
    | nil => intro ks; simp
    | cons a l ih => intro ks; rw [qH, ih, cN, jJ]; constructor
                     · rintro ((h | h) | h)
                       · exact .inl h
                       · exact .inr (.inl h)
                       · exact .inr (.inr h)
                     · rintro (h | h | h)
                       · exact .inl (.inl h)
                       · exact .inl (.inr h)
                       · exact .inr h
  simpa [eW] using this l []
theorem rX (l : List α) : (eW l).length ≤ l.length := by
  have : ∀ (l ks : List α), (l.foldl aW ks).length ≤ ks.length + l.length := by
    intro l
    induction l with
    | nil => intro ks; simp
    | cons a l ih => intro ks; have := ih (aW ks a); simp only [qH, qx]
                     have h2 : (aW ks a).length ≤ ks.length + 1 := by unfold aW; split <;> simp
                     omega
  simpa [eW] using this l []
def idx(ks:List α)(x:α):Nat:=ks.idxOf x
theorem cV{ks m:List α}{s:α}(h:s∈ks):idx (ks++m) s=idx ks s:=by
 unfold idx;rw[List.idxOf_append,qt h]
theorem dN{ks:List α}{s:α}(h:s∉ks):idx (ks++[s]) s=ks.length:=by
 unfold idx;rw[List.idxOf_append,qr h];simp
theorem uZ{ks:List α}{s x:α}(h:x∈ks):idx (aW ks s) x=idx ks x:=by
 unfold aW;split
 ·rfl
 exact cV h
theorem m8(l m:List α){x:α}(h:x∈l):idx (eW (l++m)) x=idx (eW l) x:=by
 have:∀(m ks:List α),x∈ks->idx (m.foldl aW ks) x=idx ks x:=by
  intro m
  induction m with
  |nil=>intro ks _;rfl
  |cons a m ih=>intro ks hk;rw[qH,ih _ (cN.2 (.inl hk)),uZ hk]
 unfold eW;rw[qV];exact this m _ ((dP l x).2 h)
theorem fX{ks:List α}{x:α}(hx:x∈ks):idx ks x<ks.length:=List.idxOf_lt_length_of_mem hx
theorem gU{ks:List α}{x:α}(hx:x∈ks):ks[idx ks x]'(fX hx)=x:=List.getElem_idxOf (fX hx)
theorem wO{ks:List α}{x y:α}(hx:x∈ks)(hy:y∈ks)(h:idx ks x=idx ks y):x=y:=by
 rw[<-gU hx,<-gU hy]
 congr 1
theorem D5{β:Type} [DecidableEq β](l:List α)(f:α->β)(h:(eW l).length=(eW (l.map f)).length):∀x∈l,∀y∈l,f x=f y->x=y:=by
 have hmap:∀(l:List α),(eW (l.map f)).length<=(eW l).length:=by
  intro l
  exact ZmA2
 have key:∀(l:List α) (ks:List α) (js:List β),js.length<=ks.length->(∀x∈ks,f x∈js)->((∃x∈ks,∃y∈ks,f x=f y/\x≠y)->js.length<ks.length)->
   ((∃x,(x∈ks\/x∈l)/\∃y,(y∈ks\/y∈l)/\f x=f y/\x≠y)->((l.map f).foldl aW js).length<(l.foldl aW ks).length):=by
  intro l
  induction l with
  |nil=>intro ks js h hk hc ⟨x,hx,y,hy,he⟩;exact hc ⟨x,hx.resolve_right (by simp),y,hy.resolve_right (by simp),he⟩
  |cons a l ih=>
   intro ks js h hk hc hex;simp only[qF,qH];refine ih _ _ ?_ ?_ ?_ ?_
   ·unfold aW
    by_cases ha:a∈ks
    ·rw[qt ha,qt (hk a ha)];exact h
    rw[qr ha];split<;>simp<;>omega
   ·intro x hx
    rcases cN.1 hx with h1|rfl
    ·exact cN.2 (.inl (hk x h1))
    exact cN.2 (.inr rfl)
   ·rintro⟨x,hx,y,hy,he,hne⟩
    by_cases ha:a∈ks
    ·have e:aW ks a=ks:=by unfold aW;rw[qt ha]
     rw[e]at hx hy⊢;have e2:aW js (f a)=js:=by unfold aW;rw[qt (hk a ha)]
     rw[e2];exact hc ⟨x,hx,y,hy,he,hne⟩
    have e:aW ks a=ks++[a]:=by unfold aW;rw[qr ha]
    by_cases hf:f a∈js
    ·have e2:aW js (f a)=js:=by unfold aW;rw[qt hf]
     rw[e,e2];simp;omega
    have e2:aW js (f a)=js++[f a]:=by unfold aW;rw[qr hf]
    rw[e]at hx hy
    have hxk:x∈ks:=by
     rcases List.mem_append.1 hx with h1|h1
     ·exact h1
     simp at h1;subst h1;rcases List.mem_append.1 hy with h2|h2
     ·exact absurd (he▸hk y h2) hf
     simp at h2;exact absurd h2.symm hne
    have hyk:y∈ks:=by
     rcases List.mem_append.1 hy with h1|h1
     ·exact h1
     simp at h1;subst h1;exact absurd (he▸hk x hxk) hf
    have:=hc ⟨x,hxk,y,hyk,he,hne⟩;rw[e,e2];simp;omega
   obtain⟨x,hx,y,hy,he⟩:=hex;refine⟨x,?_,y,?_,he⟩
   ·rcases hx with h1|h1
    ·exact .inl (cN.2 (.inl h1))
    exact ZmA14
   rcases hy with h1|h1
   ·exact .inl (cN.2 (.inl h1))
   exact ZmA14
 intro x hx y hy he;rcases Classical.em (x=y)with h1|h1
 ·exact h1
 exfalso;have:=key l [] [] (qb _) (fun x hx=>by cases hx) (fun⟨x,hx,_⟩=>by cases hx) ⟨x,.inr hx,y,.inr hy,he,h1⟩;unfold eW at h;omega
theorem U3{β:Type} [DecidableEq β](l:List α)(f:α->β):(eW (l.map f)).length<=(eW l).length:=by
 exact ZmA2
end
end Go.Cm
namespace Go.Cm
def zF(n:Int):UInt8:=UInt8.ofNat (n%256).toNat
def m4(n:Int):List UInt8:=[zF n,zF (n/256)]
def kD(d:Dfa)(part:List Int)(state:Nat):List UInt8:=
 m4 (part.getD state 0)++(d.next.getD state []).flatMap fun tz=>m4 (part.getD tz.toNat 0)
def q88(l:List UInt8):Int:=(l.getD 0 0).toNat+256*(l.getD 1 0).toNat
theorem v9(n:Int):((zF n).toNat:Int)=n%256:=by
 have h2:(n%256).toNat<256:=by omega
 simp[zF];omega
theorem nR(n:Int)(h0:0<=n)(h1:n<65536)(r:List UInt8):q88 (m4 n++r)=n:=by
 simp only[q88,m4,jj,List.nil_append,j7,List.getD_cons_succ];have a:=v9 n;have b:=v9 (n/256);rw[a,b];omega
theorem q4x{a b:Int}(ha:0<=a/\a<65536)(hb:0<=b/\b<65536)(h:m4 a=m4 b):a=b:=by
 have h1:=nR a ha.1 ha.2 [];have h2:=nR b hb.1 hb.2 [];rw[h]at h1;omega
theorem nS{a b:Int}{r s:List UInt8}(ha:0<=a/\a<65536)(hb:0<=b/\b<65536)(h:m4 a++r=m4 b++s):a=b/\r=s:=by
 have h1:m4 a=m4 b/\r=s:=List.append_inj h (by simp[m4]);exact⟨q4x ha hb h1.1,h1.2⟩
theorem yX{l m:List Nat}{f:Nat->Int}(hl:l.length=m.length)(hf:∀x,(x∈l\/x∈m)->0<=f x/\f x<65536)(h:l.flatMap (fun x=>m4 (f x))=m.flatMap (fun x=>m4 (f x))):l.map f=m.map f:=by
 induction l generalizing m with
 |nil=>cases m with
  |nil=>rfl
  |cons b m=>simp at hl
 |cons a l ih=>
  cases m with
  |nil=>simp at hl
  |cons b m=>
   simp only[List.flatMap_cons]at h;obtain⟨h1,h2⟩:=nS (hf a (by simp)) (hf b (by simp)) h;simp only[qF,h1,ih (by simpa using hl) (fun x hx=>hf x (by simp only[jJ];rcases hx with hx|hx<;>simp[hx])) h2]
structure K8(d:Dfa)(part:List Int):Prop where
 len:part.length=d.next.length
 range:∀i,i<d.next.length->0<=part.getD i 0/\part.getD i 0<65536
 alike:∀i j,i<d.next.length->j<d.next.length->Eqv d i j->part.getD i 0=part.getD j 0
 rule:∀i j,i<d.next.length->j<d.next.length->part.getD i 0=part.getD j 0->fW d i=fW d j
def mS(d:Dfa)(part:List Int):List (List UInt8):=(List.range d.next.length).map (kD d part)
def fY(d:Dfa)(part:List Int):List Int:=(mS d part).map fun s=>(idx (eW (mS d part)) s:Nat)
theorem iL(d:Dfa)(part:List Int)(i:Nat):kD d part i=m4 (part.getD i 0)++(aS d i).flatMap fun tz=>m4 (part.getD tz 0):=by
 simp[kD,aS,List.flatMap_map]
theorem D6{d:Dfa}(hv:bZ d){i:Nat}(hi:i<d.next.length){x:Nat}(hx:x∈aS d i):x<d.next.length:=by
 obtain⟨_,_,_,k,hk,hr⟩:=hv;obtain⟨-,-,-,hj⟩:=hr i hi;simp only[aS,jy]at hx;obtain⟨y,hy,rfl⟩:=hx;obtain⟨j,hjl,rfl⟩:=List.mem_iff_getElem.1 hy;have:=hj j hjl;rw[qq (l:=d.next.getD i []),qv hjl,qJ]at this;omega
theorem dG{d:Dfa}(hv:bZ d){i:Nat}(hi:i<d.next.length):(aS d i).length=bQ d:=by
 rw[<-f8 hv hi];simp[aS]
theorem D7{d:Dfa}(hv:bZ d){part:List Int}(h:K8 d part){i j:Nat}(hi:i<d.next.length)(hj:j<d.next.length)(he:kD d part i=kD d part j):
  part.getD i 0=part.getD j 0/\∀c,c<bQ d->part.getD (aM d i c) 0=part.getD (aM d j c) 0:=by
 rw[iL,iL]at he;obtain⟨h1,h2⟩:=nS (h.range i hi) (h.range j hj) he;refine⟨h1,fun c hc=>?_⟩;have h3:=yX (f:=fun x=>part.getD x 0) (by rw[dG hv hi,dG hv hj]) (fun x hx=>h.range x (hx.elim (D6 hv hi) (D6 hv hj))) h2;have h4:=qW (fun l=>l.getD c 0) h3;have hci:c<(aS d i).length:=by rw[dG hv hi];exact hc
 have hcj:c<(aS d j).length:=by rw[dG hv hj];exact hc
 simp only[qq,qQ,qv hci,qv hcj,jM,qJ]at h4;simp only[aM,qq,qv hci,qv hcj,qJ];exact h4
theorem q26{d:Dfa}(hv:bZ d){part:List Int}{i j:Nat}(hi:i<d.next.length)(hj:j<d.next.length)(h1:part.getD i 0=part.getD j 0)(h2:∀c,c<bQ d->part.getD (aM d i c) 0=part.getD (aM d j c) 0):kD d part i=kD d part j:=by
 rw[iL,iL,h1]
 congr 1
 have h3:(aS d i).map (fun x=>part.getD x 0)=(aS d j).map (fun x=>part.getD x 0):=by
  apply jS
  ·simp[dG hv hi,dG hv hj]
  intro c hc1 hc2;have hci:c<(aS d i).length:=by simpa using hc1
  have hcj:c<(aS d j).length:=by simpa using hc2
  have:=h2 c (by rw[<-dG hv hi];exact hci);simp only[aM]at this;rw[qq (l:=aS d i),qq (l:=aS d j),qv hci,qv hcj,qJ,qJ]at this;simpa using this
 have h4:∀l:List Nat,l.flatMap (fun tz=>m4 (part.getD tz 0))=(l.map (fun x=>part.getD x 0)).flatMap m4:=fun l=>by simp[List.flatMap_map]
 rw[h4,h4,h3]
theorem vU(d:Dfa)(part:List Int):(mS d part).length=d.next.length:=by simp[mS]
theorem nT(d:Dfa)(part:List Int){i:Nat}(hi:i<d.next.length):(mS d part)[i]? =some (kD d part i):=by simp[mS,hi]
theorem oS(d:Dfa)(part:List Int){i:Nat}(hi:i<d.next.length):kD d part i∈mS d part:=jx (nT d part hi)
theorem i7(d:Dfa)(part:List Int){i:Nat}(hi:i<d.next.length):(fY d part).getD i 0=(idx (eW (mS d part)) (kD d part i):Nat):=by
 simp[fY,qq,qQ,nT d part hi]
theorem wP{d:Dfa}{part:List Int}{i j:Nat}(hi:i<d.next.length)(hj:j<d.next.length):(fY d part).getD i 0=(fY d part).getD j 0↔kD d part i=kD d part j:=by
 rw[i7 d part hi,i7 d part hj]
 constructor
 ·intro h
  exact wO ((dP _ _).2 (oS d part hi)) ((dP _ _).2 (oS d part hj)) (by omega)
 intro h;rw[h]
theorem K8.next{d:Dfa}(hv:bZ d){part:List Int}(h:K8 d part):K8 d (fY d part):=by
 refine⟨by simp[fY,vU],fun i hi=>?_,fun i j hi hj he=>?_,fun i j hi hj he=>?_⟩
 ·rw[i7 d part hi]
  have h1:=fX ((dP _ _).2 (oS d part hi));have h2:=rX (mS d part);rw[vU]at h2;have:=hv.2.1;omega
 ·rw[wP hi hj]
  exact q26 hv hi hj (h.alike i j hi hj he) fun c hc=>h.alike _ _ (gT hv hi hc) (gT hv hj hc) (he.step hc)
 rw[wP hi hj]at he;exact h.rule i j hi hj (D7 hv h hi hj he).1
theorem K8.start{d:Dfa}(hv:bZ d)(part:List Int)(hl:part.length=d.next.length)(hp:∀i,i<d.next.length->part.getD i 0=fW d i+1):K8 d part:=by
 obtain⟨_,_,_,k,hk,hr⟩:=hv;refine⟨hl,fun i hi=>?_,fun i j hi hj he=>?_,fun i j hi hj he=>?_⟩
 ·obtain⟨h1,h2,-⟩:=hr i hi
  rw[hp i hi];unfold fW;omega
 ·rw[hp i hi,hp j hj,he.rules]
 rw[hp i hi,hp j hj]at he;omega
theorem L7{α β:Type} [DecidableEq α] [DecidableEq β](l:List α)(f:α->β)(h:∀x∈l,∀y∈l,f x=f y->x=y):eW (l.map f)=(eW l).map f:=by
 have:∀(l ks:List α),(∀x,(x∈ks\/x∈l)->∀y,(y∈ks\/y∈l)->f x=f y->x=y)->(l.map f).foldl aW (ks.map f)=(l.foldl aW ks).map f:=by
  intro l
  induction l with
  |nil=>intro ks _;rfl
  |cons a l ih=>
   intro ks h;simp only[qF,qH]
   have e:aW (ks.map f) (f a)=(aW ks a).map f:=by
    unfold aW;by_cases ha:a∈ks
    ·rw[qt ha,qt (List.mem_map.2 ⟨a,ha,rfl⟩)]
    rw[qr ha,qr]
    ·simp
    intro hm;obtain⟨b,hb,he⟩:=List.mem_map.1 hm;have:=h b (.inl hb) a (.inr (by simp)) he;exact ha (this▸hb)
   rw[e];refine ih _ (fun x hx y hy=>h x ?_ y ?_)
   ·rcases hx with hx|hx
    ·rcases cN.1 hx with h1|rfl
     ·exact .inl h1
     exact .inr (by simp)
    exact .inr (by simp[hx])
   rcases hy with hx|hx
   ·rcases cN.1 hx with h1|rfl
    ·exact .inl h1
    exact .inr (by simp)
   exact .inr (by simp[hx])
 exact this l [] (fun x hx y hy=>h x (hx.resolve_left (by simp)) y (hy.resolve_left (by simp)))
theorem pX(l:List Int)(n:Nat)(h:l.length=n):(List.range n).map (fun i=>l.getD i 0)=l:=by
 apply jS
 ·simp[h]
 intro i h1 h2;simp[h2]
theorem Z8{d:Dfa}{part:List Int}(h:K8 d part):(mS d part).map q88=part:=by
 rw[mS,List.map_map];rw[<-pX part d.next.length h.len];apply List.map_congr_left;intro i hi;have hi':i<d.next.length:=by simpa using hi
 rw[pX part d.next.length h.len];show q88 (kD d part i)=_;rw[iL,nR _ (h.range i hi').1 (h.range i hi').2]
theorem K8.done{d:Dfa}(hv:bZ d){part:List Int}(h:K8 d part)(hc:(eW (mS d part)).length=(eW part).length){i j:Nat}(hi:i<d.next.length)(hj:j<d.next.length):kD d part i=kD d part j↔Eqv d i j:=by
 constructor
 ·intro he
  refine Eqv.of_bisim hv (fun a b=>a<d.next.length/\b<d.next.length/\part.getD a 0=part.getD b 0) (fun a b ha hb hab=>⟨h.rule a b ha hb hab.2.2,fun c hcc=>⟨gT hv ha hcc,gT hv hb hcc,?_⟩⟩) hi hj ⟨hi,hj,(D7 hv h hi hj he).1⟩
  have h1:=D5 (mS d part) q88 (by rw[Z8 h];exact hc) _ (oS d part ha) _ (oS d part hb) (by
   rw[iL,iL,nR _ (h.range a ha).1 (h.range a ha).2,nR _ (h.range b hb).1 (h.range b hb).2];exact hab.2.2)
  exact(D7 hv h ha hb h1).2 c hcc
 intro he;exact q26 hv hi hj (h.alike i j hi hj he) fun c hc=>h.alike _ _ (gT hv hi hc) (gT hv hj hc) (he.step hc)
theorem D8{d:Dfa}(part:List Int):(eW (fY d part)).length=(eW (mS d part)).length:=by
 unfold fY;rw[L7]
 ·simp
 intro x hx y hy he;exact wO ((dP _ _).2 hx) ((dP _ _).2 hy) (by omega)
theorem L8{d:Dfa}{part:List Int}(h:K8 d part):(eW part).length<=(eW (mS d part)).length:=by
 have:=U3 (mS d part) q88;rwa [Z8 h]at this
def zG(d:Dfa)(part:List Int):Prop:=part.length=d.next.length/\∀i,i<d.next.length->∃f,f∈fH d (i+1)/\Eqv d i f/\part.getD i 0=(idx (fH d (i+1)) f:Nat)
theorem eJ{d:Dfa}{k f:Nat}:f∈fH d k↔f<k/\∀j,j<f->¬Eqv d f j:=by
 unfold fH;simp
theorem vV(d:Dfa):∀i,∃f,f∈fH d (i+1)/\Eqv d i f:=by
 intro i
 induction i using Nat.strongRecOn with
 |_ i ih=>
  by_cases h:∀j,j<i->¬Eqv d i j
  ·exact⟨i,eJ.2 ⟨by omega,h⟩,Eqv.refl d i⟩
  have:∃j,j<i/\Eqv d i j:=qh fun hc=>h fun j hj he=>hc ⟨j,hj,he⟩;obtain⟨j,hj,he⟩:=this;obtain⟨f,hf,hef⟩:=ih j hj;have h2:=eJ.1 hf;exact⟨f,eJ.2 ⟨by omega,h2.2⟩,he.trans hef⟩
theorem nU{d:Dfa}{a b k l:Nat}(ha:a∈fH d k)(hb:b∈fH d l)(h:Eqv d a b):a=b:=by
 have h1:=(eJ.1 ha).2;have h2:=(eJ.1 hb).2;rcases Nat.lt_trichotomy a b with h3|h3|h3
 ·exact absurd h.symm (h2 a h3)
 ·exact h3
 exact absurd h (h1 b h3)
theorem U4{d:Dfa}{part:List Int}(h:∀i j,i<d.next.length->j<d.next.length->(kD d part i=kD d part j↔Eqv d i j)):∀k,k<=d.next.length->eW ((List.range k).map (kD d part))=(fH d k).map (kD d part):=by
 intro k
 induction k with
 |zero=>intro _;simp[eW,fH]
 |succ k ih=>
  intro hk;rw[jw,qD,qF,jq,i6,ih (by omega)];by_cases hf:∀j,j<k->¬Eqv d k j
  ·rw[nQ hf,qD]
   unfold aW;rw[qr]
   ·rfl
   intro hm;obtain⟨f,hff,he⟩:=List.mem_map.1 hm;have h1:=eJ.1 hff;exact hf f h1.1 ((h f k (by omega) (by omega)).1 he).symm
  rw[pW hf];unfold aW;rw[qt];have:∃j,j<k/\Eqv d k j:=qh fun hc=>hf fun j hj he=>hc ⟨j,hj,he⟩;obtain⟨j,hj,he⟩:=this;obtain⟨f,hff,hef⟩:=vV d j;have h1:=eJ.1 hff;exact List.mem_map.2 ⟨f,eJ.2 ⟨by omega,h1.2⟩,(h f k (by omega) (by omega)).2 ((he.trans hef).symm)⟩
theorem wQ(d:Dfa)(k m:Nat):∃l,fH d (k+m)=fH d k++l:=by
 induction m with
 |zero=>exact⟨[],by simp⟩
 |succ m ih=>
  obtain⟨l,hl⟩:=ih;by_cases hf:∀j,j<k+m->¬Eqv d (k+m) j
  ·exact⟨l++[k+m],by rw[<-jI,nQ hf,hl,qj]⟩
  exact⟨l,by rw[<-jI,pW hf,hl]⟩
theorem D9{α β:Type} [DecidableEq α] [DecidableEq β](l:List α)(f:α->β)(x:α)(h:∀y∈l,f y=f x->y=x):idx (l.map f) (f x)=idx l x:=by
 unfold idx
 induction l with
 |nil=>simp
 |cons a l ih=>
  simp only[qF,List.idxOf_cons];by_cases ha:a=x
  ·subst ha;simp
  have:f a≠f x:=fun e=>ha (h a (by simp) e);have h1:(f a==f x)=false:=by simpa using this
  have h2:(a==x)=false:=by simpa using ha
  rw[h1,h2,ih (fun y hy=>h y (by simp[hy]))]
theorem K8.ok{d:Dfa}(hv:bZ d){part:List Int}(h:K8 d part)(hc:(eW (mS d part)).length=(eW part).length):zG d (fY d part):=by
 have he:=fun i j hi hj=>h.done hv hc (i:=i) (j:=j) hi hj;refine⟨by simp[fY,vU],fun i hi=>?_⟩;obtain⟨f,hf,hef⟩:=vV d i;refine⟨f,hf,hef,?_⟩;have hfl:=eJ.1 hf;rw[i7 d part hi];have hu:=U4 he d.next.length (qb _);rw[mS,hu,(he i f hi (by omega)).2 hef];rw[D9]
 ·obtain⟨l,hl⟩:=wQ d (i+1) (d.next.length-(i+1))
  rw[show i+1+(d.next.length-(i+1))=d.next.length by omega]at hl;rw[hl,cV hf]
 intro y hy hyf;have hyl:=eJ.1 hy;exact nU hy hf ((he y f hyl.1 (by omega)).1 hyf)
end Go.Cm
namespace Go.Cm
section
variable {α β : Type} [DecidableEq β]
def aL(f:α->β)(l:List α):List α:=l.foldl (fun ks s=>if f s∈ks.map f then ks else ks++[s]) []
theorem cC(f:α->β)(l:List α)(s:α):aL f (l++[s])=if f s∈(aL f l).map f then aL f l else aL f l++[s]:=by
 unfold aL;rw[qV];rfl
theorem fB{α:Type}{P:List α->Prop}(h0:P [])(h:∀l a,P l->P (l++[a]))(l:List α):P l:=by
 exact ZmA5
theorem bV(f:α->β)(l:List α):(aL f l).map f=eW (l.map f):=by
 induction l using fB with
 |h0=>rfl
 |h l s ih=>
  rw[qD,qF,jq,i6,cC,<-ih];unfold aW;split
  ·rfl
  simp
theorem eL{f:α->β}{l:List α}{x:α}(h:x∈aL f l):x∈l:=by
 induction l using fB with
 |h0=>cases h
 |h l s ih=>
  rw[cC]at h;split at h
  ·exact qZ _ (ih h)
  exact ZmA13
theorem gQ(f:α->β)(l:List α):(aL f l).length<=l.length:=by
 have h:=qW List.length (bV f l);rw[qy]at h;rw[h];have:=rX (l.map f);rwa [qy]at this
theorem lD(f:α->β)(l m:List α):∃k,aL f (l++m)=aL f l++k:=by
 induction m using fB with
 |h0=>exact⟨[],by simp⟩
 |h m s ih=>
  obtain⟨k,hk⟩:=ih;rw[<-qj,cC];split
  ·exact⟨k,hk⟩
  exact⟨k++[s],by rw[hk,qj]⟩
def bP(f:α->β)(l:List α)(s:α):Nat:=idx ((aL f l).map f) (f s)
theorem iR{f:α->β}{l:List α}{s:α}(h:s∈l):bP f l s<(aL f l).length:=by
 have:f s∈(aL f l).map f:=by rw[bV,dP];exact jb h
 have:=fX this;simpa[bP]using this
theorem rY{f:α->β}{l m:List α}{s:α}(h:s∈l):bP f (l++m) s=bP f l s:=by
 obtain⟨k,hk⟩:=lD f l m;unfold bP;rw[hk,qD,cV];rw[bV,dP];exact jb h
theorem i8{γ:Type} [DecidableEq γ]{f:α->β}{g:α->γ}{l:List α}(h:∀a∈l,∀b∈l,f a=f b↔g a=g b):aL f l=aL g l/\∀s∈l,bP f l s=bP g l s:=by
 have h1:aL f l=aL g l:=by
  have:∀m,(∀a∈m,a∈l)->aL f m=aL g m:=by
   intro m
   induction m using fB with
   |h0=>intro _;rfl
   |h m s ih=>
    intro hm;have ih:=ih fun a ha=>hm a (qZ _ ha);have hs:=hm s (by simp);rw[cC,cC,<-ih]
    have e:f s∈(aL f m).map f↔g s∈(aL f m).map g:=by
     simp only[jy]
     constructor
     ·rintro⟨a,ha,he⟩;exact⟨a,ha,(h a (hm a (qZ _ (eL ha))) s hs).1 he⟩
     rintro⟨a,ha,he⟩;exact⟨a,ha,(h a (hm a (qZ _ (eL ha))) s hs).2 he⟩
    simp only[e]
  exact this l fun _ h=>h
 refine⟨h1,fun s hs=>?_⟩;unfold bP;rw[<-h1]
 have:∀m:List α,(∀a∈m,a∈l)->idx (m.map f) (f s)=idx (m.map g) (g s):=by
  intro m;unfold idx
  induction m with
  |nil=>intro _;simp
  |cons a m ih=>
   exact ZmA4
 exact this _ fun a ha=>eL ha
end
section
variable {α β : Type} [DecidableEq β] {f : α → β} {l F : List α} {k q : Nat} {s z : α}
theorem dB(hk:k<l.length)(hs:l.getD k z=s):l.take (k+1)=l.take k++[s]:=by
 rw[qI hk,<-hs];simp[List.getD,hk]
end
noncomputable def fM(d:Dfa)(s:Nat):Nat:=Classical.choose (vV d s)
theorem L9(d:Dfa)(s:Nat):fM d s∈fH d (s+1)/\Eqv d s (fM d s):=Classical.choose_spec (vV d s)
theorem E0{d:Dfa}{a b:Nat}:fM d a=fM d b↔Eqv d a b:=by
 obtain⟨h1,h2⟩:=L9 d a;obtain⟨h3,h4⟩:=L9 d b
 constructor
 ·intro h;exact h2.trans (h▸h4.symm)
 intro h;exact nU h1 h3 (h2.symm.trans (h.trans h4))
noncomputable def heads(d:Dfa):List Nat:=aL (fM d) (dW d)
noncomputable def num(d:Dfa)(s:Nat):Nat:=bP (fM d) (dW d) s
noncomputable def dL(d:Dfa):List (List Int):=(heads d).map fun f=>nl ((aS d f).map (num d))
def K9(rows:List (List Int))(k:Int):List Int:=rows.map fun r=>r.getD k.toNat 0
def E1(rows:List (List Int))(cls:List Int):List Int:=aL (K9 rows) cls
def q1X(rows:List (List Int))(cls:List Int):List Int:=nl (cls.map (bP (K9 rows) cls))
def wR(rows:List (List Int))(left:List Int):List (List Int):=rows.map fun r=>left.map fun k=>r.getD k.toNat 0
noncomputable def hU(d:Dfa):Dfa:=⟨q1X (dL d) d.cls,wR (dL d) (E1 (dL d) d.cls),(heads d).map (fW d)⟩
def cG:Dfa:=⟨List.replicate 256 0,[],[]⟩
open Classical in
noncomputable def yY(d:Dfa):Dfa:=if bZ d then hU d else cG
open Classical in
noncomputable def pN(d:Dfa):Int:=if bZ d then 0 else 4
theorem M0{d:Dfa}(h:bZ d):yY d=hU d:=by unfold yY;rw[qt h]
theorem q4y{d:Dfa}(h:¬bZ d):yY d=cG:=by unfold yY;rw[qr h]
theorem M1{d:Dfa}(h:bZ d):pN d=0:=by unfold pN;rw[qt h]
theorem q4z{d:Dfa}(h:¬bZ d):pN d=4:=by unfold pN;rw[qr h]
def T8(g:Nat->List Nat)(l:List Nat):List Nat:=eW (0::l.flatMap g)
structure Met(g:Nat->List Nat)(l:List Nat):Prop where
 more:∀j,j<l.length->j<(T8 g (l.take j)).length
 all:T8 g l=l
theorem m9{α:Type} [DecidableEq α](l m:List α):eW (l++m)=m.foldl aW (eW l):=by unfold eW;rw[qV]
theorem gL{α:Type} [DecidableEq α](m l:List α):∃k,m.foldl aW l=l++k:=by
 induction m generalizing l with
 |nil=>exact⟨[],by simp⟩
 |cons a m ih=>
  exact ZmA12
theorem tP{α:Type} [DecidableEq α](l m:List α):∃k,eW (l++m)=eW l++k:=by
 rw[m9];exact gL m (eW l)
theorem U5(g:Nat->List Nat)(l m:List Nat):∃k,T8 g (l++m)=T8 g l++k:=by
 unfold T8;rw[a8,<-jj];exact tP _ _
theorem Met.take{g:Nat->List Nat}{l:List Nat}(h:Met g l){j:Nat}(hj:j<l.length):l.take (j+1)=(T8 g (l.take j)).take (j+1):=by
 obtain⟨k,hk⟩:=U5 g (l.take j) (l.drop j);rw[j5,h.all]at hk;have hm:=h.more j hj;generalize T8 g (l.take j)=u at hk hm⊢;rw[hk,List.take_append_of_le_length hm]
theorem pY(out row:List Nat):gG out row=row.foldl aW out:=rfl
theorem q6A{d:Dfa}(hv:bZ d){i x:Nat}(hi:i<d.next.length)(hx:x∈aS d i):x<d.next.length:=D6 hv hi hx
theorem E2{d:Dfa}(hv:bZ d):∀f i out,f+i=d.next.length+1->i<=out.length->(∀x∈out,x<d.next.length)->out.Nodup->T8 (aS d) (out.take i)=out->(∀j,j<i->j<(T8 (aS d) (out.take j)).length)->
  Met (aS d) (fR d f i out)/\(∀x∈fR d f i out,x<d.next.length)/\(fR d f i out).Nodup:=by
 intro f
 induction f with
 |zero=>
  intro i out hf hi hb hn;have:=rD hn hb;omega
 |succ f ih=>
  intro i out hf hi hb hn hall qc8;unfold fR;by_cases hlt:i<out.length
  ·rw[qt hlt]
   have hg:out.getD i 0=out[i]:=by simp[List.getD,hlt]
   have qbf:out.getD i 0∈out:=by rw[hg];exact ji hlt
   obtain⟨s1,s2,s3,s4⟩:=uX (aS d (out.getD i 0)) out;obtain⟨k,hk⟩:=gL (aS d (out.getD i 0)) out;rw[<-pY]at hk
   have htk:∀j,j<=out.length->(gG out (aS d (out.getD i 0))).take j=out.take j:=fun j hj=>by
    rw[hk,List.take_append_of_le_length hj]
   refine ih (i+1) _ (by omega) (by omega) (fun x hx=>?_) (s1 hn) ?_ (fun j hj=>?_)
   ·rcases(s2 x).1 hx with h|h
    ·exact hb x h
    exact q6A hv (hb _ qbf) h
   ·rw[htk _ hlt,qI hlt]
    unfold T8 at hall⊢;rw[a8,<-jj,m9,hall,pY,hg];simp
   rw[htk j (by omega)];rcases Nat.lt_succ_iff_lt_or_eq.1 hj with h|rfl
   ·exact qc8 j h
   rw[hall];exact hlt
  rw[qr hlt];have hi':i=out.length:=by omega
  subst hi';rw[qX]at hall;exact⟨⟨qc8,hall⟩,hb,hn⟩
theorem gM{d:Dfa}(hv:bZ d):Met (aS d) (dW d)/\(∀x∈dW d,x<d.next.length)/\(dW d).Nodup:=by
 have h1:=hv.1;exact E2 hv _ 0 [0] (by omega) (by simp) (by simp;omega) (by simp) rfl (fun j hj=>absurd hj (qz j))
theorem mC{d:Dfa}(hv:bZ d):0∈dW d:=by
 have h:=(gM hv).1.all;rw[<-h,T8,dP];simp
theorem tQ{d:Dfa}(hv:bZ d){s t:Nat}(hs:s∈dW d)(ht:t∈aS d s):t∈dW d:=by
 have h:=(gM hv).1.all;rw[<-h,T8,dP];exact qU _ (List.mem_flatMap.2 ⟨s,hs,ht⟩)
theorem M2{d:Dfa}(hv:bZ d):(dW d).length<=d.next.length:=rD (gM hv).2.2 (gM hv).2.1
theorem M3{d:Dfa}{f:Nat}(h:f∈heads d):f∈dW d:=eL h
theorem wS{d:Dfa}(hv:bZ d):(heads d).length<=d.next.length:=qc (gQ _ _) (M2 hv)
theorem zH{d:Dfa}{s:Nat}(hs:s∈dW d):num d s<(heads d).length:=iR hs
end Go.Cm
namespace Go.Cm
open Go.RowKit
noncomputable def ext(w x:World):World:=@ite _ (Below w.heap.size w x) (Classical.propDecidable _) x w
theorem aD(w x:World):Below w.heap.size w (ext w x):=by
 unfold ext;split
 ·assumption
 exact qk _ _
theorem q8g{w x:World}(h:Below w.heap.size w x):ext w x=x:=by
 unfold ext;rw[qt h]
theorem aI{w x:World}(h:Below w.heap.size w x):∃y,x=ext w y:=⟨x,(q8g h).symm⟩
theorem aB{w w':World}(h:∃x,w'=ext w x):Below w.heap.size w w':=by
 obtain⟨x,rfl⟩:=h;exact aD w x
theorem aN(w:World)(n:Nat):Below w.heap.size w (w.drewN n):=⟨rfl,rfl,rfl,qb _,fun _ _=>rfl⟩
theorem cP{w x y:World}(h:Below w.heap.size w x)(k:Below x.heap.size x y):Below w.heap.size w y:=h.trans (k.mono h.size)
theorem q2b(w x y:World):∃z,ext (ext w x) y=ext w z:=aI (cP (aD w x) (aD _ y))
theorem aA(w:World)(o:Obj):Below w.heap.size w (w.alloc o):=(qk _ _).alloc (qb _) o
theorem fD(w:World):∃x,w=ext w x:=aI (qk _ _)
@[go_sem] theorem cell?_ext(w x:World)(b o:Nat)(h:b<w.heap.size):(ext w x).cell? ⟨b,o,none⟩=w.cell? ⟨b,o,none⟩:=(aD w x).cell (p:=⟨b,o,none⟩) h
@[go_sem] theorem frozen?_ext(w x:World)(b o:Nat)(h:b<w.heap.size):(ext w x).frozen? ⟨b,o,none⟩=w.frozen? ⟨b,o,none⟩:=(aD w x).frozen (p:=⟨b,o,none⟩) h
theorem iT(w x:World):w.heap.size<=(ext w x).heap.size:=(aD w x).size
theorem vY(w x:World)(b:Nat)(h:b<w.heap.size):(ext w x).heap[b]? =w.heap[b]? :=(aD w x).block b h
@[go_sem] theorem cell?_ext_alloc_old(w x:World)(a:Obj)(b o:Nat)(h:b<w.heap.size):(ext (w.alloc a) x).cell? ⟨b,o,none⟩=w.cell? ⟨b,o,none⟩:=by
 rw[cell?_ext _ _ _ _ (by simp;omega),World.cell?_alloc_past _ _ _ h]
@[go_sem] theorem cell?_ext_alloc_new(w x:World)(c:Array Value)(t:TypeId)(o:Nat):(ext (w.alloc (.cells c t)) x).cell? ⟨w.heap.size,o,none⟩=c[o]? :=by
 rw[cell?_ext _ _ _ _ (by simp),World.cell?_alloc_new]
structure Hd(w:World)(oa:Option Addr)(len cap b off:Nat):Prop where
 hat:0<len->oa=some ⟨b,off,none⟩
 hcap:len<=cap
 hmax:cap<=maxLen
 hsml:len<=140737488351232
 hblk:0<len->b<w.heap.size
theorem Hd.len{w:World}{oa:Option Addr}{len cap b off:Nat}(h:Hd w oa len cap b off):len<=9223372036854775807:=by
 have h1:=h.hsml;omega
def Sl(w:World)(v:Value)(l:List Value):Prop:=
 ∃oa cap b off,v=.slice oa l.length cap/\Hd w oa l.length cap b off/\∀i,i<l.length->w.cell? ⟨b,off+i,none⟩=some (l.getD i undef)
theorem Sl.up{w w':World}{v:Value}{l:List Value}(h:Sl w v l)(hb:Below w.heap.size w w'):Sl w' v l:=by
 obtain⟨oa,cap,b,off,rfl,hd,hc⟩:=h;refine⟨oa,cap,b,off,rfl,⟨hd.hat,hd.hcap,hd.hmax,hd.hsml,fun h=>qe (hd.hblk h) hb.size⟩,fun i hi=>?_⟩;rw[hb.cell (p:=⟨b,off+i,none⟩) (hd.hblk (by omega))];exact hc i hi
theorem Sl.nil(w:World):Sl w (.slice none 0 0) []:=⟨none,0,0,0,rfl,⟨fun h=>absurd h (jH 0),qb _,by simp[maxLen],by simp,fun h=>absurd h (jH 0)⟩,fun i hi=>absurd hi (qz i)⟩
theorem aU{P:Program}{w:World}{oa:Option Addr}{b off len cap:Nat}(T E:TypeId)(hT:P.underlying T=some (.slice E))(hE:(P.info? E).map (·.size)=some 1)(h:Hd w oa len cap b off):
  ∀(W:World) (k:IntKind) (i:Int),0<=i->i<len->(Instr.indexAt T (.slice oa len cap) (.int k i)).run P W=.ok (.pointer (some ⟨b,off+i.toNat,none⟩)) W:=by
 intro W k i h0 h1;rw[h.hat (by omega)];have he:P.elem T=E:=by simp[Program.elem,hT]
 rw[run_indexAt_slice W T ⟨b,off,none⟩ len cap k i (by rw[he];exact hT),qt ⟨h0,h1⟩,he];cases hq:P.info? E with
 |none=>simp[hq]at hE
 |some inf=>
  have hs:inf.size=1:=by simpa[hq]using hE
  simp[sizeOf,typeInfo,hq,hs,Result.andThen,Addr.add]
def ints(l:List Int):List Value:=l.map (Value.int .i64)
@[simp] theorem aV(l:List Int):(ints l).length=l.length:=by simp[ints]
theorem eS(l:List Int)(i:Nat)(h:i<l.length):(ints l).getD i undef=.int .i64 (l.getD i 0):=by
 simp[ints,List.getD,h]
def eE(w:World)(v:Value)(l:List Int):Prop:=Sl w v (ints l)
theorem eE.up{w w':World}{v:Value}{l:List Int}(h:eE w v l)(hb:Below w.heap.size w w'):eE w' v l:=Sl.up h hb
theorem eE.open{w:World}{v:Value}{l:List Int}(h:eE w v l):
  ∃oa cap b off,v=.slice oa l.length cap/\Hd w oa l.length cap b off/\∀i,i<l.length->w.cell? ⟨b,off+i,none⟩=some (.int .i64 (l.getD i 0)):=by
 obtain⟨oa,cap,b,off,rfl,hd,hc⟩:=h;simp only[aV]at hd hc⊢;exact⟨oa,cap,b,off,rfl,hd,fun i hi=>by rw[hc i hi,eS l i hi]⟩
def mG(w:World)(v:Value)(ll:List (List Int)):Prop:=
 ∃vs,Sl w v vs/\vs.length=ll.length/\∀i,i<ll.length->eE w (vs.getD i undef) (ll.getD i [])
theorem mG.up{w w':World}{v:Value}{l:List (List Int)}(h:mG w v l)(hb:Below w.heap.size w w'):mG w' v l:=by
 exact ZmA15
theorem mG.open{w:World}{v:Value}{ll:List (List Int)}(h:mG w v ll):
  ∃oa cap b off,v=.slice oa ll.length cap/\Hd w oa ll.length cap b off/\∀i,i<ll.length->
   ∃oi ci bi fi,w.cell? ⟨b,off+i,none⟩=some (.slice oi (ll.getD i []).length ci)/\Hd w oi (ll.getD i []).length ci bi fi/\
    (∀j,j<(ll.getD i []).length->w.cell? ⟨bi,fi+j,none⟩=some (.int .i64 ((ll.getD i []).getD j 0)))/\eE w (.slice oi (ll.getD i []).length ci) (ll.getD i []):=by
 obtain⟨vs,⟨oa,cap,b,off,rfl,hd,hc⟩,h2,h3⟩:=h;rw[h2]at hd hc⊢;refine⟨oa,cap,b,off,rfl,hd,fun i hi=>?_⟩;have h4:=h3 i hi;obtain⟨oi,ci,bi,fi,he,hdi,hci⟩:=h4.open;refine⟨oi,ci,bi,fi,?_,hdi,hci,?_⟩
 ·rw[hc i hi,he]
 rw[<-he];exact h4
theorem cQ{P:Program}(w:World)(g off n:Nat)(t ty:TypeId)(cs:Array Value)(fr:Nat×Nat)(d:TypeDesc)(hg:w.heap[g]? =some (.cells cs t fr))
  (hu:P.underlying ty=some d) (hd:(match d with|.struct _|.array _ _=>true|_=>false)=true) (hi:(P.info? ty).map (·.size)=some n) (hs:off+n<=cs.size):
  (loadVar ty ⟨g,off,none⟩).run P w=.ok (.agg (cs.extract off (off+n))) w:=by
 have hlen:(cs.extract off (off+n)).toList.length=n:=by simp;omega
 have hl:(loadCells ⟨g,off,none⟩ (cs.extract off (off+n)).toList.length).run P w=.ok (cs.extract off (off+n)).toList.toArray w:=
  run_loadCells_list (P:=P) w ⟨g,off,none⟩ (cs.extract off (off+n)).toList (fun j v hv=>by
   have qjr:(⟨g,off,none⟩:Addr).add j=⟨g,off+j,none⟩:=by unfold Addr.add;split<;>simp_all
   rw[qjr,cell_of_row w g (off+j) cs t fr hg]
   have hj:j<n:=by
    have:=(List.getElem?_eq_some_iff.1 hv).1;omega
   rw[<-hv];simp[hj])
 rw[hlen]at hl;simp only[Array.toArray_toList]at hl;cases hq:P.info? ty with
 |none=>simp[hq]at hi
 |some i=>
  have hs':i.size=n:=by simpa[hq]using hi
  have hagg:(isAgg ty).run P w=.ok true w:=by
   unfold isAgg;rw[Sem.run_bind,run_underlying hu w];cases d<;>simp_all
  simp[loadVar,Sem.run_bind,hagg,sizeOf,typeInfo,hq,hs',hl]
theorem fS{P:Program}{ops:Array Oper}{rest:List Oper}{o:Oper}{a:Act}{w:World}{Q:Exit->Act->World->Prop}(hgd:o.guard=none)(ty:TypeId)(x:Operand)(ho:o.op=.load ty x)
  (g off n:Nat) (hx:a.eval x=.pointer (some ⟨g,off,none⟩)) (t:TypeId) (cs B:Array Value) (fr:Nat×Nat) (d:TypeDesc) (hg:w.heap[g]? =some (.cells cs t fr))
  (hu:P.underlying ty=some d) (hd:(match d with|.struct _|.array _ _=>true|_=>false)=true) (hi:(P.info? ty).map (·.size)=some n) (hs:off+n<=cs.size) (hB:cs.extract off (off+n)=B)
  (h:wpList P ops Q rest (a.put o.dst (.agg B)) w):wpList P ops Q (o::rest) a w:=by
 subst hB;refine wpList_plain hgd fun K hK=>?_;unfold Oper.wp execOp;simp only[ho,hx,Instr.loadAt,Instr.sureAddr,Sem.run_bind,Sem.run_pure,Result.andThen_ok,cQ w g off n t ty cs fr d hg hu hd hi hs];exact hK _ _ h
theorem tS{B:Nat}{w v:World}(h:Below B w v)(n:Nat):Below B w (v.drewN n):=h.trans ⟨rfl,rfl,rfl,qb _,fun _ _=>rfl⟩
theorem q2c{B:Nat}{w v:World}(h:Below B w v)(hB:B<=v.heap.size)(x:World):Below B w (ext v x):=h.trans ((aD v x).mono hB)
theorem kK{w v:World}(h:Below w.heap.size w v)(x:World):Below w.heap.size w (ext v x):=q2c h h.size x
theorem kO{w v:World}(h:Below w.heap.size w v)(o:Obj):Below w.heap.size w (v.alloc o):=h.alloc h.size o
theorem bY{P:Program}{f:FuncId}{args:Array Value}{w x:World}{v:Value}
  (h:Calls P f args (ext w x) fun e w'=>e=.returned v/\∃y,w'=ext (ext w x) y):Calls P f args (ext w x) fun e w'=>e=.returned v/\∃y,w'=ext w y:=
 h.mono fun _ _ ⟨he,y,hy⟩=>⟨he,by rw[hy];exact q2b w x y⟩
theorem bO{P:Program}{id:Nat}{Q:Exit->Act->World->Prop}{a:Act}{w:World}{l:List Oper}(hm:P.follows .mixedOrders=true)(hB:Region.lexB .any l.toArray=true)
  (h:wpQuiet P l.toArray (fun w'=>∃x,w'=ext w x) (fun a'=>∀w',(∃x,w'=ext w x)->Q .normal a' w') l a):(Code.region id l.toArray true).wp P Q a w:=
 wp_region_quiet (C:=fun w'=>∃x,w'=ext w x) hm hB (aI (aN w 1)) (by simpa using h)
theorem aJ{B:Nat}{a w:World}(h:Below B a w:=by repeat(first|exact qk _ _|assumption|refine tS ?_ _|refine qn ?_|refine kK ?_ _|refine kO ?_ _)):Below B a w:=h
end Go.Cm
namespace Go.Cm
open Go.RowKit
def Z9(C:World->Prop)(K:Act->World->Prop):Exit->Act->World->Prop
 |.normal,a,w=>C w/\K a w
 |_,_,_=>False
def noQ:Exit->Act->World->Prop:=fun _ _ _=>False
def aG(P:Program)(ops:Array Oper)(C:World->Prop)(Q:Act->World->Prop):List Oper->Act->World->Prop
 |[],a,w=>Q a w
 |o::rest,a,w=>wpList P ops (Z9 C (aG P ops C Q rest)) [o] a w
section
variable {P : Program} {ops : Array Oper} {md : Region.Mode} {C : World → Prop}
def lO(P:Program)(md:Region.Mode)(ops:Array Oper)(C:World->Prop)(Q:Act->World->Prop):Nat->Array Bool->Act->World->Prop
 |0,listed,a,w=>C w/\Region.ready md ops listed=[]/\Q a w
 |fuel+1,listed,a,w=>C w/\(Region.ready md ops listed=[]->Q a w)/\
  ∀i∈Region.ready md ops listed,wpOp P ops noQ i (lO P md ops C Q fuel (listed.setIfInBounds i true)) a w
theorem oU{o:Oper}{a:Act}{w:World}{K:Act->World->Prop}{Q1 Q2:Exit->Act->World->Prop}(h1:∀c a w,¬Q1 (.panic c) a w)(h2:¬LetsOut Q1)(h:o.wp P a w K Q1):o.wp P a w K Q2:=by
 unfold Oper.wp at*;generalize (execOp a.eval o).run P w=r at*;cases r with
 |ok n w'=>
  cases n<;>simp only[Oper.upon]at h⊢ <;>
   first
    |exact h
    |exact Calls.mono h (fun e w'' he=>by cases e<;>first|exact he|exact(h1 _ _ _ he).elim|exact(h2 he).elim)
    |exact Rows.mono h (fun _ _ he=>he)
 |halt x w'=>cases x<;>simp only[Oper.upon]at h⊢ <;>first|exact h.elim|exact(h1 _ _ _ h).elim
theorem wW:¬LetsOut noQ:=fun⟨_,_,h⟩=>h
theorem lP{K:Act->World->Prop}:¬LetsOut (Z9 C K):=fun⟨_,_,h⟩=>h
theorem oV{Q:Act->World->Prop}{Q':Exit->Act->World->Prop}(hQ:∀a w,C w->Q a w->Q' .normal a w):∀(fuel:Nat) (listed:Array Bool) (a:Act) (w:World),
  lO P md ops C Q fuel listed a w->wpAny P md ops Q' fuel listed a w
 |0,_,_,_,h=>⟨h.2.1,hQ _ _ h.1 h.2.2⟩
 |fuel+1,listed,a,w,h=>⟨fun h0=>hQ _ _ h.1 (h.2.1 h0),fun i hi=>by
   have h1:=wpOp_mono (fun a w=>oV (Q':=Q') hQ fuel _ a w) (h.2.2 i hi);unfold wpOp at h1⊢;split
   ·rename_i ho;simpa[ho]using h1
   rename_i o ho;simp only[ho]at h1;split
   ·exact ZmA9
   rename_i hw;simpa[hw]using h1⟩
def sC:Op->Bool
 |.call c=>(match c.callee with|.builtin .len|.builtin .cap|.builtin .min|.builtin .max=>true|_=>false)
 |.go _|.defer _|.panic _|.send .. |.recv .. |.select .. =>false
 |_=>true
theorem U8{s:Sem Value}{w w':World}{f:FuncId}{args:Array Value}:(s>>=fun x=>pure (Next.value x):Sem Next).run P w≠.ok (.enter f args) w':=by
 rw[Sem.run_bind];cases s.run P w<;>simp[Result.andThen]
theorem U9{s:Sem Unit}{w w':World}{f:FuncId}{args:Array Value}:(s>>=fun _=>pure Next.skip:Sem Next).run P w≠.ok (.enter f args) w':=by
 rw[Sem.run_bind];cases s.run P w<;>simp[Result.andThen]
def Yin(P:Program)(ops:Array Oper)(C:World->Prop)(o:Oper)(v:Value)(a:Act):Prop:=
 (Region.wanted o (yielded ops a.tmps)=true/\∀w,C w->(execOp a.eval o).run P w=.ok (.value v) w\/((execOp a.eval o).run P w=.ok .skip w/\v=undef))\/
 (Region.wanted o (yielded ops a.tmps)=false/\v=undef)
theorem Yin.of_same{o:Oper}{v:Value}{a a':Act}(hy:Yin P ops C o v a)(he:execOp a'.eval o=execOp a.eval o)
  (hw:Region.wanted o (yielded ops a'.tmps)=Region.wanted o (yielded ops a.tmps)):Yin P ops C o v a':=by
 unfold Yin at*;rw[he,hw];exact hy
theorem Yin.wpOp{i:Nat}{o:Oper}{v:Value}{a:Act}{w:World}(hC:C w)(hi:ops[i]? =some o)(hy:Yin P ops C o v a)
  {K:Act->World->Prop} (h:K (a.put o.dst v) w):wpOp P ops noQ i K a w:=by
 unfold Go.wpOp;simp only[hi];rcases hy with⟨hw,hv⟩|⟨hw,rfl⟩
 ·simp only[hw,jG,Oper.wp]
  rcases hv w hC with hx|⟨hx,he⟩
  ·rw[hx];exact .inl h
  subst he;rw[hx];exact .inl h
 simp only[hw,qP,jp];exact h
theorem q2d{j:Nat}{oi oj:Oper}{v:Value}(hj:ops[j]? =some oj)(hap:oi.apart ops oj=true)
  (hsi:∀cs b,oi.op≠.select cs b) (hsj:∀cs b,oj.op≠.select cs b) {K:Act->World->Prop} {a:Act} {w:World}
  (hy:Yin P ops C oi v a) (h:wpOp P ops noQ j K (a.put oi.dst v) w):
  wpOp P ops noQ j (fun a' w'=>Yin P ops C oi v a'/\K (a'.put oi.dst v) w') a w:=by
 obtain⟨h1,h2,h3⟩:=Oper.apart_spec hap
 have keep:∀(a:Act),Yin P ops C oi v a->∀u,Yin P ops C oi v (a.put oj.dst u):=fun a hy u=>
  hy.of_same (execOp_put oi hsi a oj.dst u h3) (wanted_put oi a oj.dst u h3)
 have keepD:∀d,Yin P ops C oi v {a with defers:=d::a.defers}:=fun d=>hy.of_same rfl rfl;unfold wpOp at*;simp only[hj]at*;rw[wanted_put oj a oi.dst v h1]at h;split
 ·rename_i hw
  simp only[hw,jG]at h;rcases h with h|⟨_,qfn⟩
  case inr=>exact(wW qfn).elim
  refine .inl ?_;unfold Oper.wp at*;rw[execOp_put oj hsj a oi.dst v h1]at h;generalize (execOp a.eval oj).run P w=r at*;cases r with
  |ok n w'=>
   cases n<;>simp only[Oper.upon]at h⊢
   case value u=>exact⟨keep a hy u,by rw[<-Act.put_comm a v u h2];exact h⟩
   case skip=>exact⟨keep a hy _,by rw[<-Act.put_comm a v undef h2];exact h⟩
   case defer d=>
    refine⟨keep _ (keepD d) _,?_⟩;rw[<-Act.put_comm _ v undef h2,<-Act.put_defers];exact h
   case enter f args=>
    refine Calls.mono h fun e w'' he=>?_;cases e with
    |returned u=>exact⟨keep a hy u,by rw[<-Act.put_comm a v u h2];exact he⟩
    |panicked c=>exact(he:False).elim
    |outgrown=>exact he
   case row row args=>exact Rows.mono h fun u w'' he=>⟨keep a hy u,by rw[<-Act.put_comm a v u h2];exact he⟩
  |halt x w'=>
   cases x<;>simp only[Oper.upon]at h⊢
   case panic u=>exact(h:False).elim
 rename_i hw;simp only[hw]at h;exact⟨keep a hy _,by rw[<-Act.put_comm a v undef h2];exact h⟩
theorem nV{Q:Act->World->Prop}{i:Nat}{oi:Oper}{v:Value}(hi:ops[i]? =some oi)(qdH:∀(j:Nat) (o:Oper) cs b,ops[j]? =some o->o.op≠.select cs b):
  ∀(fuel:Nat) (listed:Array Bool) (a:Act) (w:World),
   (∀j oj,ops[j]? =some oj->j≠i->listed.getD j true=false->(∀e∈oj.after,Region.binds md e=true->e.on≠i)->oi.apart ops oj=true)->
   i∈Region.ready md ops listed->Yin P ops C oi v a->
   lO P md ops C Q fuel (listed.setIfInBounds i true) (a.put oi.dst v) w->lO P md ops C Q (fuel+1) listed a w:=by
 intro fuel
 induction fuel with
 |zero=>
  intro listed a w _ hr hy H;refine⟨H.1,fun h=>(by rw[h]at hr;cases hr),fun j hj=>?_⟩;by_cases hji:j=i
  ·subst hji;exact hy.wpOp H.1 hi H
  have:=ready_mono hj hji;rw[H.2.1]at this;cases this
 |succ fuel ih=>
  intro listed a w qbD hr hy H;refine⟨H.1,fun h=>(by rw[h]at hr;cases hr),fun j hj=>?_⟩;by_cases hji:j=i
  ·subst hji;exact hy.wpOp H.1 hi H
  have h1:=H.2.2 j (ready_mono hj hji);obtain⟨qdW,oj,hoj,hall⟩:=mem_ready.1 hj
  have qfj:∀e∈oj.after,Region.binds md e=true->e.on≠i:=fun e he hb heq=>by
   have h1:=hall e he hb;have h0:=(mem_ready.1 hr).1;rw[heq]at h1;rcases jO i listed.size with h'|h'
   ·simp[h']at h0 h1;rw[h0]at h1;cases h1
   simp[jr h']at h1
  have h2:=q2d hoj (qbD j oj hoj hji qdW qfj) (fun cs b=>qdH i oi cs b hi) (fun cs b=>qdH j oj cs b hoj) hy h1
  have qcc:∀k ok,ops[k]? =some ok->k≠i->(listed.setIfInBounds j true).getD k true=false->
    (∀e∈ok.after,Region.binds md e=true->e.on≠i)->oi.apart ops ok=true:=fun k ok hk hki hun hno=>by
   refine qbD k ok hk hki ?_ hno;by_cases hjk:j=k
   ·subst hjk;exact qdW
   rw[getD_set_ne true hjk]at hun;exact hun
  refine wpOp_mono (fun a' w' h3=>ih (listed.setIfInBounds j true) a' w' qcc (ready_mono hr (Ne.symm hji)) h3.1 ?_) h2;rw[Array.setIfInBounds_comm _ _ hji];exact h3.2
def kE(l:List Oper)(o:List Nat):List Oper:=o.map fun i=>l.getD i default
theorem pk:(∀l i o,kE l (i::o)=l.getD i default::kE l o)/\(∀l,kE l []=[])/\(∀(x:Oper) xs d,(x::xs).getD 0 d=x)/\∀(x:Oper) xs n d,(x::xs).getD (n+1) d=xs.getD n d:=⟨fun _ _ _=>rfl,fun _=>rfl,fun _ _ _=>rfl,fun _ _ _ _=>rfl⟩
def q4s(md:Region.Mode)(ops:Array Oper):List Nat->Array Bool->Bool
 |[],listed=>Region.ready md ops listed==[]
 |i::r,listed=>Region.ready md ops listed==[i]&&q4s md ops r (listed.setIfInBounds i true)
def q4D(md:Region.Mode)(ops:Array Oper)(o2:List Nat):List Nat->Array Bool->Bool
 |[],listed=>q4s md ops o2 listed
 |i::r,listed=>(Region.ready md ops listed).contains i&&Region.free md ops listed i&&((ops[i]?).map (fun o=>sC o.op)).getD false&&q4D md ops o2 r (listed.setIfInBounds i true)
def q9y(md:Region.Mode)(ops:Array Oper)(o1 o2:List Nat):Bool:=
 Region.noSelect ops&&(o1.length+o2.length==ops.size)&&q4D md ops o2 o1 (Array.replicate ops.size false)
theorem tT{Q:Act->World->Prop}:∀(o2:List Nat) (listed:Array Bool) (a:Act) (w:World),q4s md ops o2 listed=true->C w->
  aG P ops C Q (kE ops.toList o2) a w->lO P md ops C Q o2.length listed a w
 |[],listed,a,w,hB,hC,h=>⟨hC,by simpa[q4s]using hB,h⟩
 |i::r,listed,a,w,hB,hC,h=>by
  simp only[q4s,qG,jY]at hB;obtain⟨hr,hB'⟩:=hB;have him:i∈Region.ready md ops listed:=by rw[hr];simp
  obtain⟨_,o,ho,_⟩:=mem_ready.1 him;have hol:ops.toList.getD i default=o:=by rw[qq,j6,ho];rfl
  rw[qx];refine⟨hC,fun h0=>(by rw[hr]at h0;cases h0),fun j hj=>?_⟩;obtain rfl:j=i:=by rw[hr]at hj;simpa using hj
  simp only[kE,qF,hol]at h;have h':wpList P ops (Z9 C (aG P ops C Q (kE ops.toList r))) [o] a w:=h;unfold wpList at h';unfold wpOp;simp only[ho];split
  ·rename_i hw
   rw[qt hw]at h';rcases h' with h'|⟨-,h'⟩
   ·refine .inl (Oper.wp_mono ?_ (oU (fun _ _ _ h=>h) lP h'))
    intro a' w' hh;obtain⟨hC',hk⟩:=(hh:Z9 C (aG P ops C Q (kE ops.toList r)) .normal a' w');exact tT r _ a' w' hB' hC' hk
   exact(lP h').elim
  rename_i hw;rw[qr hw]at h';obtain⟨hC',hk⟩:=(h':Z9 C (aG P ops C Q (kE ops.toList r)) .normal (a.put o.dst undef) w);exact tT r _ _ _ hB' hC' hk
theorem oW{o:Oper}{a:Act}{K:Act->Prop}(hn:sC o.op=true)
  (h:if Region.wanted o (yielded ops a.tmps)then o.quiet P a C K else K (a.put o.dst undef)):∃v,Yin P ops C o v a/\K (a.put o.dst v):=by
 by_cases hw:Region.wanted o (yielded ops a.tmps)=true
 ·simp only[hw,jG]at h
  obtain⟨v,h1,h2⟩:=h;refine⟨v,.inl ⟨hw,fun w hC=>?_⟩,h2⟩;have h3:=h1 w hC;unfold Oper.quietAt at h3;generalize hr:(execOp a.eval o).run P w=r at h3;cases r with
  |halt x w'=>simp[Oper.quietUpon]at h3
  |ok n w'=>
   cases n<;>simp only[Oper.quietUpon]at h3
   case value u=>obtain⟨rfl,rfl⟩:=h3;exact .inl rfl
   case skip=>obtain⟨rfl,rfl⟩:=h3;exact .inr ⟨rfl,rfl⟩
   case enter f args=>
    exfalso
    revert hr
    unfold execOp
    cases ho:o.op<;>simp only[ho,sC]at hn⊢ <;>
     first
      |(cases hn;done)
      |exact U8
      |exact U9
      |skip
    ·simp
    ·simp
    ·rw[Sem.run_bind];cases(asBool _).run P w<;>simp[Result.andThen]
    ·split
     all_goals first|(simp;done)|skip
     all_goals first|(unfold runtimePanic;simp;done)|skip
     split
     all_goals first|(simp;done)|(unfold runtimePanic;simp;done)|skip
     simp only[Sem.run_bind];cases(program).run P w with
     |halt=>simp[Result.andThen]
     |ok p w1=>
      simp only[Result.andThen];cases(nilAhead _ _ _ _).run P w1 with
      |halt=>simp
      |ok q w2=>
       simp only[];split<;>simp[unsupported]
    rename_i c;unfold resolve;split at hn
    all_goals first|(cases hn;done)|skip
    all_goals rename_i qj9;simp only[qj9,Sem.run_bind,Sem.run_pure,Result.andThen_ok,invoke,builtin]
    all_goals
     generalize Sem.run P _ w=r;cases r<;>simp[Result.andThen]
 simp only[hw]at h;exact⟨undef,.inr ⟨by simpa using hw,rfl⟩,h⟩
theorem vA{Q:Act->World->Prop}(hs:Region.noSelect ops=true)(o2:List Nat){w:World}(hC:C w):∀(o1:List Nat) (listed:Array Bool) (a:Act),q4D md ops o2 o1 listed=true->
  wpQuiet P ops C (fun a'=>aG P ops C Q (kE ops.toList o2) a' w) (kE ops.toList o1) a->lO P md ops C Q (o1.length+o2.length) listed a w
 |[],listed,a,hB,h=>by
  rw[qK,qE];exact tT o2 listed a w (by simpa[q4D]using hB) hC h
 |i::r,listed,a,hB,h=>by
  simp only[q4D,qG]at hB;obtain⟨⟨⟨hr,hf⟩,hn⟩,hB'⟩:=hB;have him:i∈Region.ready md ops listed:=by simpa using hr
  obtain⟨_,o,ho,_⟩:=mem_ready.1 him;have hol:ops.toList.getD i default=o:=by rw[qq,j6,ho];rfl
  simp only[kE,qF,hol]at h;have hn':sC o.op=true:=by simpa[ho]using hn
  obtain⟨v,hy,hK⟩:=oW (K:=wpQuiet P ops C (fun a'=>aG P ops C Q (kE ops.toList o2) a' w) (kE ops.toList r)) hn' h;rw[qx,Nat.add_right_comm];exact nV ho (Region.noSelect_spec hs) _ listed a w (Region.free_spec ho hf) him hy (vA hs o2 hC r _ _ hB' hK)
theorem sD{id:Nat}{Q:Exit->Act->World->Prop}{a:Act}{w:World}{l:List Oper}(C:World->Prop)(o1 o2:List Nat)(hm:P.follows .mixedOrders=true)(hB:q9y .any l.toArray o1 o2=true)(hC:C w.drew)
  (h:wpQuiet P l.toArray C (fun a'=>aG P l.toArray C (fun a'' w''=>C w''->Q .normal a'' w'') (kE l o2) a' w.drew) (kE l o1) a):(Code.region id l.toArray true).wp P Q a w:=by
 simp only[q9y,qG,jY]at hB;obtain⟨⟨hs,hlen⟩,hB⟩:=hB;refine wp_region_any hm ?_;have h1:=vA (Q:=fun a'' w''=>C w''->Q .normal a'' w'') (md:=.any) (w:=w.drew) hs o2 hC o1 (Array.replicate l.toArray.size false) a hB (by simpa using h);rw[hlen]at h1;exact oV (fun a w hC hq=>hq hC) _ _ _ _ h1
theorem yZ{id:Nat}{Q:Exit->Act->World->Prop}{a:Act}{w:World}{l:List Oper}(o1 o2:List Nat)(hm:P.follows .mixedOrders=true)(hB:q9y .any l.toArray o1 o2=true)
  (h:wpQuiet P l.toArray (fun w'=>∃x,w'=ext w x) (fun a'=>aG P l.toArray (fun w'=>∃x,w'=ext w x) (fun a'' w''=>(∃x,w''=ext w x)->Q .normal a'' w'') (kE l o2) a' w.drew) (kE l o1) a):(Code.region id l.toArray true).wp P Q a w:=
 sD (C:=fun w'=>∃x,w'=ext w x) o1 o2 hm hB (aI (aN w 1)) h
noncomputable def chg(w:World)(row:Option Nat)(x:World):World:=@ite _ (w.grownBy x row) (Classical.propDecidable _) x w
theorem gH{B:Nat}{w v:World}(h:Below B w v):Below B w v.drew:=h.trans ⟨rfl,rfl,rfl,qb _,fun _ _=>rfl⟩
theorem cW(w:World)(row:Option Nat):w.grownBy w row:=⟨rfl,rfl,rfl,qb _,fun _ _ _=>rfl⟩
theorem aC{w x y:World}{row:Option Nat}(h:w.grownBy x row)(k:x.grownBy y row):w.grownBy y row:=
 ⟨k.os.trans h.os,k.tape.trans h.tape,k.output.trans h.output,qc h.size k.size,fun i hi hr=>(k.block i (qe hi h.size) hr).trans (h.block i hi hr)⟩
theorem aE{w x:World}(h:Below w.heap.size w x)(row:Option Nat):w.grownBy x row:=⟨h.os,h.tape,h.output,h.size,fun k hk _=>h.block k hk⟩
theorem cJ(w:World)(row:Option Nat):w.grownBy w.drew row:=aE (aN w 1) row
theorem fT(w x:World)(row:Option Nat):w.grownBy (chg w row x) row:=by
 unfold chg;split
 ·assumption
 exact cW w row
theorem q8h{w x:World}{row:Option Nat}(h:w.grownBy x row):chg w row x=x:=by unfold chg;rw[qt h]
theorem bX{w x:World}{row:Option Nat}(h:w.grownBy x row):∃y,x=chg w row y:=⟨x,(q8h h).symm⟩
@[go_sem] theorem cell?_chg(w x:World)(row:Option Nat)(b o:Nat)(h:b<w.heap.size)(hr:some b≠row):(chg w row x).cell? ⟨b,o,none⟩=w.cell? ⟨b,o,none⟩:=World.cell?_of_block ((fT w x row).block b h hr)
@[go_sem] theorem frozen?_chg(w x:World)(row:Option Nat)(b o:Nat)(h:b<w.heap.size)(hr:some b≠row):(chg w row x).frozen? ⟨b,o,none⟩=w.frozen? ⟨b,o,none⟩:=World.frozen?_of_block ((fT w x row).block b h hr)
theorem kP{id:Nat}{Q:Exit->Act->World->Prop}{a:Act}{w:World}{l:List Oper}(row:Option Nat)(o1 o2:List Nat)(hm:P.follows .mixedOrders=true)(hB:q9y .any l.toArray o1 o2=true)
  (h:wpQuiet P l.toArray (fun w'=>∃x,w'=chg w row x) (fun a'=>aG P l.toArray (fun w'=>∃x,w'=chg w row x) (fun a'' w''=>(∃x,w''=chg w row x)->Q .normal a'' w'') (kE l o2) a' w.drew) (kE l o1) a):(Code.region id l.toArray true).wp P Q a w:=
 sD (C:=fun w'=>∃x,w'=chg w row x) o1 o2 hm hB (bX (cJ w row)) h
end
end Go.Cm
namespace Go.Cm
open Go.RowKit Go.Proofs
def Own(w:World)(B:Nat)(E:TypeId)(v:Value)(xs:List Value):Prop:=
 w.ownsRow B E 1 v xs.length xs/\xs.length<=140737488351232
theorem Own.nil(w:World)(B:Nat)(E:TypeId):Own w B E (.slice none 0 0) []:=⟨World.ownsRow_nil w B E 1,by simp⟩
theorem Own.sl{w:World}{B:Nat}{E:TypeId}{v:Value}{xs:List Value}(h:Own w B E v xs):Sl w v xs:=by
 obtain⟨⟨_,h⟩,hl⟩:=h;rcases h with⟨rfl,h0⟩|⟨g,cap,cur,rfl,hb,hg,hnc,hcm,hcs,qbh⟩
 ·obtain rfl:xs=[]:=List.length_eq_zero_iff.1 h0
  exact Sl.nil w
 refine⟨some ⟨g,0,none⟩,cap,g,0,rfl,⟨fun _=>rfl,hnc,hcm,hl,fun _=>(Array.getElem?_eq_some_iff.1 hg).1⟩,fun i hi=>?_⟩;rw[cell_of_row w g (0+i) cur E (0,0) hg,qE]
 have h1:xs[i]? =cur[i]? :=by
  rw[<-qbh,List.getElem?_take,qt (by omega)];simp
 rw[<-h1];simp[List.getD,hi]
theorem Own.keep{w w':World}{B:Nat}{E:TypeId}{v:Value}{xs:List Value}{row:Option Nat}(h:Own w B E v xs)(hg:w.grownBy w' row)(hne:v.ownBlock=none\/v.ownBlock≠row):Own w' B E v xs:=⟨h.1.kept hg hne,h.2⟩
theorem Own.up{w w':World}{B:Nat}{E:TypeId}{v:Value}{xs:List Value}(h:Own w B E v xs)(hb:Below w.heap.size w w'):Own w' B E v xs:=
 h.keep (row:=none) ⟨hb.os,hb.tape,hb.output,hb.size,fun k hk _=>hb.block k hk⟩ (by cases v.ownBlock<;>simp)
theorem Own.lt{w:World}{B:Nat}{E:TypeId}{v:Value}{xs:List Value}(h:Own w B E v xs):∀k,v.ownBlock=some k->B<=k/\k<w.heap.size:=h.1.lt
theorem dR{B:Nat}{w0 w w':World}{E:TypeId}{v:Value}{xs:List Value}(h:Below B w0 w)(hB:B<=w.heap.size)(ho:Own w B E v xs)(hg:w.grownBy w' v.ownBlock):Below B w0 w':=
 h.grown hg hB fun k hk=>(ho.lt k hk).1
theorem Own.cases{w:World}{B:Nat}{E:TypeId}{v:Value}{xs:List Value}(h:Own w B E v xs):
  ∃oa cap g,v=.slice oa xs.length cap/\Hd w oa xs.length cap g 0/\(0<xs.length->v.ownBlock=some g/\B<=g)/\(∀i,i<xs.length->w.cell? ⟨g,i,none⟩=some (xs.getD i undef))/\(∀i,i<xs.length->w.frozen? ⟨g,i,none⟩=false)/\
   ∀i u,i<xs.length->Own (w.setCell ⟨g,i,none⟩ u) B E v (xs.set i u)/\w.grownBy (w.setCell ⟨g,i,none⟩ u) (some g):=by
 obtain⟨⟨h0,h⟩,hl⟩:=h;rcases h with⟨rfl,hx⟩|⟨g,cap,cur,rfl,hb,hg,hnc,hcm,hcs,qbh⟩
 ·obtain rfl:xs=[]:=List.length_eq_zero_iff.1 hx
  exact⟨none,0,0,rfl,⟨fun h=>absurd h (jH 0),qb _,by simp[maxLen],by simp,fun h=>absurd h (jH 0)⟩,fun h=>absurd h (jH 0),fun i hi=>absurd hi (qz i),fun i hi=>absurd hi (qz i),fun i u hi=>absurd hi (qz i)⟩
 have hown:w.ownsRow B E 1 (.slice (some ⟨g,0,none⟩) xs.length cap) xs.length xs:=⟨h0,.inr ⟨g,cap,cur,rfl,hb,hg,hnc,hcm,hcs,qbh⟩⟩;refine⟨some ⟨g,0,none⟩,cap,g,rfl,⟨fun _=>rfl,hnc,hcm,hl,fun _=>(Array.getElem?_eq_some_iff.1 hg).1⟩,fun _=>⟨rfl,hb⟩,fun i hi=>?_,fun i hi=>hown.frozenAt i,fun i u hi=>?_⟩
 ·rw[hown.cellAt i (by omega)];simp[List.getD,hi]
 have:=hown.stored i u;refine⟨⟨?_,by simpa using hl⟩,this.2⟩;rw[j8];exact this.1
theorem kF(b off j:Nat):(⟨b,off,none⟩:Addr).add j=⟨b,off+j,none⟩:=by unfold Addr.add;split<;>simp_all
theorem q6C{P:Program}(w:World)(B:Nat)(t ty E:TypeId)(z:Value)(bytes:Nat)(ht:P.underlying t=some (.slice E))(qbv:(P.info? E).map (fun i=>(i.zero,i.size,i.bytes))=some (some z,1,bytes))(hz:z.cells.size=1)(hby:bytes<=24)
  (v:Value) (xs:List Value) (hown:Own w B E v xs) (xv:Value) (news:List Value) (hx:Sl w xv news) (h1:∀u∈news,u.oneCell'=true) (hlen:xs.length+news.length<=4294967296) (hB:B<=w.heap.size):
  ∃v' w',(Builtin.append_ #[t,t] ty #[v,xv]).run P w=.ok v' w'/\Own w' B E v' (xs++news)/\w.grownBy w' v.ownBlock/\(∀k,v'.ownBlock=some k->v.ownBlock=some k\/w.heap.size<=k):=by
 obtain⟨i0,hi,hz0,hz1,hz2⟩:∃i0,P.info? E=some i0/\i0.zero=some z/\i0.size=1/\i0.bytes=bytes:=by
  cases hq:P.info? E with
  |none=>simp[hq]at qbv
  |some i0=>simp[hq]at qbv;exact⟨i0,rfl,qbv.1,qbv.2.1,qbv.2.2⟩
 have hl1:xs.length+news.length<=maxLen:=by simp only[maxLen];omega
 have hl2:(xs.length+news.length)*bytes<=140737488355328:=by
  have:=Nat.mul_le_mul hlen hby;omega
 obtain⟨oa,cx,b,off,rfl,hd,hc⟩:=hx;have qbW:xs.length+news.length<=140737488351232:=by omega
 rcases hown with⟨hrow,hsm⟩;by_cases hn:news=[]
 ·subst hn
  refine⟨v,w,?_,⟨by simpa using hrow,by simpa using hsm⟩,⟨rfl,rfl,rfl,qb _,fun _ _ _=>rfl⟩,fun k hk=>.inl hk⟩;rcases hrow.2 with⟨rfl,hx0⟩|⟨g,cap,cur,rfl,_,_,hnc,_⟩
  ·cases oa<;>simp[Builtin.append_,run_underlying ht,sizeOf,typeInfo,hi,Builtin.lenOf,Builtin.firstCells,loadCells,loadCellsFrom]
  cases oa<;>simp[Builtin.append_,run_underlying ht,sizeOf,typeInfo,hi,Builtin.lenOf,Builtin.firstCells,loadCells,loadCellsFrom,hnc,storeCells]
 have qbs:0<news.length:=List.length_pos_iff.2 hn;obtain rfl:=hd.hat qbs
 have hnews:∀j u,news[j]? =some u->w.cell? ((⟨b,off,none⟩:Addr).add j)=some u:=fun j u hu=>by
  have hj:=(List.getElem?_eq_some_iff.1 hu).1;rw[kF,hc j hj];simp[List.getD,hu]
 rcases hrow.2 with⟨rfl,hx0⟩|⟨g,cap,cur,rfl,hbg,hg,hnc,hcm,hcs,qbh⟩
 ·obtain rfl:xs=[]:=List.length_eq_zero_iff.1 hx0
  obtain⟨v',w',hr,ho,hgr,-⟩:=run_append_own (P:=P) w w.heap.size t ty E i0 z 1 bytes ht hi hz0 hz1 hz2 hz (by decide) (.slice none 0 0) 0 [] (World.ownsRow_nil _ _ _ _) ⟨b,off,none⟩ news.length cx news (by simp) hnews h1 (by simpa using hl1) (by simpa using hl2) (qb _);have hk:=ho.lt;refine⟨v',w',hr,⟨⟨by simp,?_⟩,by simp only[List.nil_append];omega⟩,hgr,fun k hk'=>.inr (hk k hk').1⟩;simp only[qE,List.nil_append]at ho;rcases ho.2 with⟨h1,h2⟩|⟨g,cap,cur,h1,h2,h3⟩
  ·exact .inl ⟨h1,by simpa using h2⟩
  exact .inr ⟨g,cap,cur,h1,by omega,by simpa using h3⟩
 by_cases hroom:xs.length+news.length<=cap
 ·obtain⟨w',hr,ho,hgr⟩:=run_append_fits (P:=P) w B t ty E i0 1 ht hi hz1 g xs.length cap xs ⟨hrow.1,.inr ⟨g,cap,cur,rfl,hbg,hg,hnc,hcm,hcs,qbh⟩⟩ ⟨b,off,none⟩ news.length cx news (by simp) hnews h1 hroom
  exact⟨_,w',hr,⟨by rw[qi];exact ho,by rw[qi];exact qbW⟩,hgr,fun k hk=>.inl hk⟩
 have holds:∀j u,xs[j]? =some u->w.cell? ((⟨g,0,none⟩:Addr).add j)=some u:=World.ownsRow.cells (g:=g) hrow rfl;have qgz:xs.length+news.length<=9223372036854775807:=by omega
 have hr:=run_append_grow (P:=P) w t ty E i0 z ht hi hz0 ⟨g,0,none⟩ xs.length cap xs (by rw[hz1];exact hrow.1) holds ⟨b,off,none⟩ news.length cx news (by rw[hz1];simp) hnews (by omega) (by omega) (growslice_fits (by omega) (by rw[hz2];exact hl2));have hge:=grownCap_ge w (xs.length+news.length) cap E;have qfB:grownCap w (xs.length+news.length) cap E<=maxLen:=grownCap_le_maxLen w _ cap E hl1;refine⟨_,_,hr,⟨⟨by simp,.inr ⟨w.heap.size,_,_,by rw[qi],hB,heap_alloc_new w.drew _,by rw[qi];exact hge,qfB,?_,?_⟩⟩,by rw[qi];exact qbW⟩,⟨rfl,rfl,rfl,by simp,fun k hk _=>Below.heap_alloc w.drew _ k hk⟩,fun k hk=>.inr (by simp[Value.ownBlock]at hk;omega)⟩
 ·simp only[Array.size_append,jA,size_zeroCells,hz]
  omega
 simp only[Array.toList_append,qj];rw[<-qj,Nat.mul_one];exact List.take_left
theorem bM{P:Program}{ops:Array Oper}{rest:List Oper}{o:Oper}{a:Act}{w:World}{Q:Exit->Act->World->Prop}(hgd:o.guard=none)(s x:Operand)(t:TypeId)
  (ho:o.op=.call {callee:=.builtin .append,args:=#[s,x],argTypes:=#[t,t]})
  (B E:TypeId) (z:Value) (bytes:Nat) (ht:P.underlying t=some (.slice E)) (qbv:(P.info? E).map (fun i=>(i.zero,i.size,i.bytes))=some (some z,1,bytes)) (hz:z.cells.size=1) (hby:bytes<=24)
  (v:Value) (xs:List Value) (hs:a.eval s=v) (hown:Own w B E v xs) (xv:Value) (news:List Value) (hxe:a.eval x=xv) (hx:Sl w xv news) (h1:∀u∈news,u.oneCell'=true) (hlen:xs.length+news.length<=4294967296) (hB:B<=w.heap.size)
  (h:∀v' w',Own w' B E v' (xs++news)->w.grownBy w' v.ownBlock->(∀k,v'.ownBlock=some k->v.ownBlock=some k\/w.heap.size<=k)->wpList P ops Q rest (a.put o.dst v') w'):wpList P ops Q (o::rest) a w:=by
 obtain⟨v',w',hr,h2,h3,h4⟩:=q6C (P:=P) w B t o.type E z bytes ht qbv hz hby v xs hown xv news hx h1 hlen hB;refine wpList_plain hgd fun K hK=>?_;unfold Oper.wp execOp;simp only[ho,resolve,invoke,builtin,Sem.run_bind,Sem.run_pure,Result.andThen_ok,List.map_toArray,qF,jq,hs,hxe,hr];exact hK _ _ (h v' w' h2 h3 h4)
theorem dY(w:World)(c:Array Value)(E:TypeId)(hc:c.size<=4294967296):Sl (w.alloc (.cells c E)) (.slice (some ⟨w.heap.size,0,none⟩) c.size c.size) c.toList:=by
 refine⟨some ⟨w.heap.size,0,none⟩,c.size,w.heap.size,0,by simp,⟨fun _=>rfl,by simp,by simp only[maxLen];omega,by simp;omega,fun _=>by simp⟩,fun i hi=>?_⟩;have hi':i<c.size:=by simpa using hi
 rw[qE,World.cell?_alloc_new];simp[List.getD,hi']
theorem bU(w:World)(B:Nat)(c:Array Value)(E:TypeId)(hc:c.size<=4294967296)(hB:B<=w.heap.size):Own (w.alloc (.cells c E)) B E (.slice (some ⟨w.heap.size,0,none⟩) c.size c.size) c.toList:=by
 have h:=World.ownsRow_lit (base:=B) (e:=E) (size:=1) w c c.size hB (by simp only[maxLen];omega) (by simp);exact⟨by simpa using h,by simp;omega⟩
theorem wX{P:Program}(t E:TypeId)(z:Value)(bytes n:Nat)(ht:P.underlying t=some (.slice E))(qbv:(P.info? E).map (fun i=>(i.zero,i.size,i.bytes))=some (some z,1,bytes))(hz:z.cells=#[z])(hby:bytes<=24)(hn:n<=4294967296):
  ∀W:World,(Instr.makeSlice t (.int .i64 (n:Int)) (.int .i64 (n:Int))).run P W=.ok (.slice (some ⟨W.heap.size,0,none⟩) n n) (W.alloc (.cells (madeCells #[z] n) E)):=by
 intro W
 obtain⟨i0,hi,hz0,hz1,hz2⟩:∃i0,P.info? E=some i0/\i0.zero=some z/\i0.size=1/\i0.bytes=bytes:=by
  cases hq:P.info? E with
  |none=>simp[hq]at qbv
  |some i0=>simp[hq]at qbv;exact⟨i0,rfl,qbv.1,qbv.2.1,qbv.2.2⟩
 have hb:bytes*n<=24*4294967296:=Nat.mul_le_mul hby hn
 have hb':(i0.bytes:Int)*(n:Int)<=281474976710656:=by
  rw[hz2,<-Int.natCast_mul];omega
 have hr:=run_make (P:=P) W t E i0 z ht hi hz0 .i64 .i64 n n (by omega) (Int.le_refl _) hb' (by omega);simp only[qA,hz1,hz,Nat.mul_one]at hr;exact hr
theorem vZ(W:World)(B E:TypeId)(z:Value)(n:Nat)(hB:B<=W.heap.size)(hn:n<=4294967296):Own (W.alloc (.cells (madeCells #[z] n) E)) B E (.slice (some ⟨W.heap.size,0,none⟩) n n) (List.replicate n z):=by
 have h:=bU W B (madeCells #[z] n) E (by rw[size_madeCells];simpa using hn) hB;rw[toList_madeCells_one]at h;rw[size_madeCells]at h;simpa using h
section
variable {w : World} {B : Nat} {E : TypeId} {g n cap : Nat} {xs : List Value}
theorem Own.len(h:Own w B E (.slice (some ⟨g,0,none⟩) n cap) xs):n=xs.length:=by
 rcases h.1.2 with⟨h1,_⟩|⟨g',cap',cur,h1,_⟩
 ·cases h1
 simp at h1;exact h1.2.1
theorem Own.row(h:Own w B E (.slice (some ⟨g,0,none⟩) n cap) xs):w.ownsRow B E 1 (.slice (some ⟨g,0,none⟩) xs.length cap) xs.length xs:=by
 have:=h.len;subst this;exact h.1
theorem Own.cell(h:Own w B E (.slice (some ⟨g,0,none⟩) n cap) xs){i:Nat}(hi:i<xs.length):w.cell? ⟨g,i,none⟩=some (xs.getD i undef):=by
 rw[h.row.cellAt i (by omega)];simp[List.getD,hi]
theorem Own.free(h:Own w B E (.slice (some ⟨g,0,none⟩) n cap) xs)(i:Nat):w.frozen? ⟨g,i,none⟩=false:=h.row.frozenAt i
theorem Own.store(h:Own w B E (.slice (some ⟨g,0,none⟩) n cap) xs)(i:Nat)(u:Value):Own (w.setCell ⟨g,i,none⟩ u) B E (.slice (some ⟨g,0,none⟩) n cap) (xs.set i u)/\w.grownBy (w.setCell ⟨g,i,none⟩ u) (some g):=by
 have h1:=h.row.stored i u;have hl:=h.len;subst hl;exact⟨⟨by rw[j8];exact h1.1,by rw[j8];exact h.2⟩,h1.2⟩
theorem Own.blk(h:Own w B E (.slice (some ⟨g,0,none⟩) n cap) xs):B<=g/\g<w.heap.size:=h.lt g rfl
end
theorem Own.mono{w:World}{B B' E:Nat}{v:Value}{xs:List Value}(h:Own w B E v xs)(hB:B'<=B):Own w B' E v xs:=
 ⟨⟨h.1.1,h.1.2.imp id fun⟨g,cap,cur,h1,h2,h3⟩=>⟨g,cap,cur,h1,by omega,h3⟩⟩,h.2⟩
theorem Own.upB{w w':World}{B E n:Nat}{v:Value}{xs:List Value}(h:Own w B E v xs)(hn:w.heap.size<=n)(hb:Below n w w'):Own w' B E v xs:=h.up (hb.mono hn)
end Go.Cm
namespace Go.Cm
open Go.RowKit Go.Proofs Go.Maps
def zK(P:Program)(K:TypeId)(w:World)(b:Nat)(ks:List Value)(n:Nat):Prop:=
 ∃es clock,w.heap[b]? =some (.map es clock)/\es.toList.map (·.key)=ks/\(∀x∈es.toList,∃l,keyOf P K x.key=some l)/\(∀x∈es.toList,∃c:Int,x.val=.int .i64 c/\1<=c/\c<=n)/\(es.toList.map (·.born)).Nodup/\(∀x∈es.toList,x.born<clock)/\ks.Nodup
section
variable {P : Program} {K E T : TypeId} {w w' : World} {b n : Nat} {ks : List Value} {k : Value} {lk : Lit}
theorem zK.made(P:Program)(K:TypeId)(w:World):zK P K (w.alloc (.map #[] 0)) w.heap.size [] 0:=
 ⟨#[],0,(MapKept.heap_alloc w _).1,rfl,by simp,by simp,by simp,by simp,by simp⟩
theorem zK.lt(h:zK P K w b ks n):b<w.heap.size:=by
 obtain⟨es,clock,hb,-⟩:=h;exact(Array.getElem?_eq_some_iff.1 hb).1
theorem zK.keep(h:zK P K w b ks n){row:Option Nat}(hg:w.grownBy w' row)(hne:some b≠row):zK P K w' b ks n:=by
 have hlt:=h.lt;obtain⟨es,clock,hb,r⟩:=h;exact⟨es,clock,(hg.block b hlt hne).trans hb,r⟩
theorem zK.up(h:zK P K w b ks n)(hb:Below w.heap.size w w'):zK P K w' b ks n:=h.keep (row:=none) (aE hb none) (by simp)
theorem zK.more(h:zK P K w b ks n):zK P K w b ks (n+1):=by
 obtain⟨es,clock,hb,h1,h2,h3,h4⟩:=h;exact⟨es,clock,hb,h1,h2,fun x hx=>by obtain⟨c,hc,h5,h6⟩:=h3 x hx;exact⟨c,hc,h5,by omega⟩,h4⟩
structure q9N(P:Program)(K T:TypeId)(w:World)(b:Nat)(ks:List Value)(n:Nat)(k:Value)(c:Int)(ks':List Value):Prop where
 step:∃(st:Int) (w1 w2:World),(Instr.mapEntry T (.map (some b)) k).run P w=.ok (.tuple #[.int .i64 c,.int .i64 st]) w1/\(Instr.lookup T (.map (some b)) k false).run P w=.ok (.int .i64 c) w/\(Instr.lookup T (.map (some b)) k false).run P w1=.ok (.int .i64 c) w1/\
  (Instr.entryStore T (.map (some b)) (.int .i64 st) (.int .i64 (c+1))).run P w1=.ok () w2/\(Instr.lookup T (.map (some b)) k false).run P w2=.ok (.int .i64 (c+1)) w2/\w.grownBy w1 (some b)/\w.grownBy w2 (some b)/\zK P K w2 b ks' (n+1)
theorem nW(w:World)(b:Nat)(o:Obj):w.grownBy {w with heap:=w.heap.setIfInBounds b o} (some b):=
 ⟨rfl,rfl,rfl,by simp,fun i _ hi=>by
  have:i≠b:=fun e=>hi (by rw[e]);simp[this.symm]⟩
theorem wY{es:Array MapEntry}{clock:Nat}(hb:w.heap[b]? =some (.map es clock))(o:Obj):({w with heap:=w.heap.setIfInBounds b o}:World).heap[b]? =some o:=by
 have:=(Array.getElem?_eq_some_iff.1 hb).1;simp[this]
theorem tU(Kd:Keyed P K)(hT:P.underlying T=some (.map K E))(hz:(zeroValue E).run P w=.ok (.int .i64 0) w)(hk:keyOf P K k=some lk){es:Array MapEntry}{clock:Nat}(hb:w.heap[b]? =some (.map es clock)):
  (((Instr.findKey K k es.toList).run P w=.ok none w->(Instr.lookup T (.map (some b)) k false).run P w=.ok (.int .i64 0) w)/\∀j v,(Instr.findKey K k es.toList).run P w=.ok (some (j,v)) w->(Instr.lookup T (.map (some b)) k false).run P w=.ok v w):=by
 refine⟨fun h=>?_,fun j v h=>?_⟩
 ·simp[Instr.lookup,run_underlying hT,MapKept.run_getObj_map hb,Kd.check w _ hk,h,hz,Result.andThen]
 simp[Instr.lookup,run_underlying hT,MapKept.run_getObj_map hb,Kd.check w _ hk,h,Result.andThen]
theorem zL{α β:Type}(l:List α)(j:Nat)(f:α->α)(g:α->β)(h:∀a,g (f a)=g a):(l.modify j f).map g=l.map g:=by
 refine List.ext_getElem? fun i=>?_;rw[qQ,qQ,List.getElem?_modify];cases l[i]? with
 |none=>rfl
 |some a=>
  simp only[jM,Option.map_eq_map];split
  ·rw[h]
  rfl
theorem tV{α:Type}{l:List α}{j:Nat}{f:α->α}{x:α}(h:x∈l.modify j f):x∈l\/∃a∈l,x=f a:=by
 obtain⟨i,hi⟩:=List.mem_iff_getElem?.1 h;rw[List.getElem?_modify]at hi;cases hl:l[i]? with
 |none=>rw[hl]at hi;cases hi
 |some a=>
  have ha:=List.mem_iff_getElem?.2 ⟨i,hl⟩;rw[hl]at hi;simp only[jM,Option.map_eq_map,jz]at hi;split at hi
  ·exact .inr ⟨a,ha,hi.symm⟩
  exact .inl (hi▸ha)
theorem V0{α:Type}(l:List α)(a:α)(f:α->α):(l++[a]).modify l.length f=l++[f a]:=by
 refine List.ext_getElem? fun i=>?_;rw[List.getElem?_modify];rcases Nat.lt_trichotomy i l.length with h|h|h
 ·rw[qS h,qS h]
  cases l[i]? with
  |none=>rfl
  |some x=>simp;omega
 ·subst h;simp
 rw[qM (by simp;omega),qM (by simp;omega)];rfl
theorem E3{α:Type}{l:List α}(h:l.Nodup){i j:Nat}(hi:i<l.length)(hj:j<l.length)(hij:i<j):l[i]≠l[j]:=List.pairwise_iff_getElem.1 h i j hi hj hij
theorem V1(Kd:Keyed P K)(hk:keyOf P K k=some lk){l:List MapEntry}(hkl:∀x∈l,∃l,keyOf P K x.key=some l)(hnd:(l.map (·.key)).Nodup){j:Nat}{e0:MapEntry}(hj:l[j]? =some e0)(he:e0.key=k)(W:World):(Instr.findKey K k l).run P W=.ok (some (j,e0.val)) W:=by
 rcases Kd.find W hk l hkl with⟨-,hno⟩|⟨j',e1,f,hj',he'⟩
 ·exact absurd he (hno e0 (jx hj))
 obtain⟨h1,h2⟩:=List.getElem?_eq_some_iff.1 hj;obtain⟨h3,h4⟩:=List.getElem?_eq_some_iff.1 hj'
 have:j'=j:=by
  rcases Nat.lt_trichotomy j' j with h|h|h
  ·exact(E3 hnd (i:=j') (j:=j) (by rw[qy];exact h3) (by rw[qy];exact h1) h (by rw[jt,jt,h2,h4,he,he'])).elim
  ·exact h
  exact(E3 hnd (i:=j) (j:=j') (by rw[qy];exact h1) (by rw[qy];exact h3) h (by rw[jt,jt,h2,h4,he,he'])).elim
 subst this;rw[hj]at hj';injection hj' with e;rw[e];exact f
theorem q8i(Kd:Keyed P K)(hT:P.underlying T=some (.map K E))(hz:∀w,(zeroValue E).run P w=.ok (.int .i64 0) w)(hk:keyOf P K k=some lk)(h:zK P K w b ks n)(hn:k∉ks):q9N P K T w b ks n k 0 (ks++[k]):=by
 obtain⟨es,clock,hb,hks,hkl,hvl,hpb,hbl,hnd⟩:=h;have hne:∀x∈es.toList,x.key≠k:=fun x hx e=>hn (by rw[<-hks,<-e];exact jb hx);rcases Kd.find w hk es.toList hkl with⟨f1,-⟩|⟨j,e0,f2,hj,he⟩
 ·have hl0:=(tU (w:=w) Kd hT (hz w) hk hb).1 f1
  have hb1:=wY hb (.map (es.push ⟨k,.int .i64 0,clock⟩) (clock+1));obtain⟨w1,hw1⟩:∃w1:World,w1={w with heap:=w.heap.setIfInBounds b (.map (es.push ⟨k,.int .i64 0,clock⟩) (clock+1))}:=⟨_,rfl⟩
  have hr1:(Instr.mapEntry T (.map (some b)) k).run P w=.ok (.tuple #[.int .i64 0,.int .i64 clock]) w1:=by
   simp[Instr.mapEntry,run_underlying hT,MapKept.run_getObj_map hb,Kd.check w _ hk,f1,hz,Result.andThen,MapKept.run_setObj_map _ hb,hw1,goInt]
  have hg1:w.grownBy w1 (some b):=by rw[hw1];exact nW w b _
  rw[<-hw1]at hb1
  have hfi:(es.push ⟨k,.int .i64 0,clock⟩).findIdx? (fun e=>(e.born:Int)==(clock:Int))=some es.size:=by
   rw[Array.findIdx?_push]
   have h1:es.findIdx? (fun e=>(e.born:Int)==(clock:Int))=none:=by
    rw[Array.findIdx?_eq_none_iff];intro x hx;have:=hbl x (by simpa using hx);simp;omega
   rw[h1];simp
  have hb2:=wY hb1 (.map ((es.push ⟨k,.int .i64 0,clock⟩).modify es.size fun e=>{e with val:=.int .i64 (0+1)}) (clock+1));obtain⟨w2,hw2⟩:∃w2:World,w2={w1 with heap:=w1.heap.setIfInBounds b (.map ((es.push ⟨k,.int .i64 0,clock⟩).modify es.size fun e=>{e with val:=.int .i64 (0+1)}) (clock+1))}:=⟨_,rfl⟩
  have hr2:(Instr.entryStore T (.map (some b)) (.int .i64 (clock:Int)) (.int .i64 (0+1))).run P w1=.ok () w2:=by
   exact ZmA10
  have hg2:w1.grownBy w2 (some b):=by rw[hw2];exact nW w1 b _
  rw[<-hw2]at hb2;have e1:(es.push (⟨k,.int .i64 0,clock⟩:MapEntry)).toList=es.toList++[⟨k,.int .i64 0,clock⟩]:=by simp
  have e2:((es.push (⟨k,.int .i64 0,clock⟩:MapEntry)).modify es.size fun e=>{e with val:=.int .i64 (0+1)}).toList=es.toList++[⟨k,.int .i64 (0+1),clock⟩]:=by
   rw[Array.toList_modify,e1,<-qN,V0]
  have hk1:∀v,∀x∈es.toList++[(⟨k,v,clock⟩:MapEntry)],∃l,keyOf P K x.key=some l:=fun v x hx=>by
   rcases List.mem_append.1 hx with hx|hx
   ·exact hkl x hx
   rw[List.mem_singleton.1 hx];exact⟨lk,hk⟩
  have hfd:∀(W:World) (v:Value),∃j,(Instr.findKey K k (es.toList++[(⟨k,v,clock⟩:MapEntry)])).run P W=.ok (some (j,v)) W:=fun W v=>by
   rcases Kd.find W hk _ (hk1 v)with⟨-,hno⟩|⟨j,e0,f2,hj,he⟩
   ·exact absurd rfl (hno ⟨k,v,clock⟩ (by simp))
   rcases List.mem_append.1 (jx hj)with hx|hx
   ·exact absurd he (hne e0 hx)
   rw[List.mem_singleton.1 hx]at f2;exact⟨j,f2⟩
  obtain⟨j1,f1'⟩:=hfd w1 (.int .i64 0);obtain⟨j2,f2'⟩:=hfd w2 (.int .i64 (0+1));rw[<-e1]at f1';rw[<-e2]at f2';refine⟨(clock:Int),w1,w2,hr1,hl0,(tU (w:=w1) Kd hT (hz w1) hk hb1).2 _ _ f1',hr2,(tU (w:=w2) Kd hT (hz w2) hk hb2).2 _ _ f2',hg1,aC hg1 hg2,?_⟩;refine⟨_,_,hb2,by rw[e2];simp[hks],by rw[e2];exact hk1 _,?_,?_,?_,?_⟩
  ·rw[e2]
   intro x hx;rcases List.mem_append.1 hx with hx|hx
   ·obtain⟨c,hc,h1,h2⟩:=hvl x hx;exact⟨c,hc,h1,by omega⟩
   rw[List.mem_singleton.1 hx];exact⟨1,rfl,by omega,by omega⟩
  ·rw[e2,qD,List.nodup_append]
   refine⟨hpb,by simp,fun x hx y hy e=>?_⟩;obtain⟨z,hz1,rfl⟩:=List.mem_map.1 hx;simp at hy;have:=hbl z hz1;omega
  ·rw[e2]
   intro x hx;rcases List.mem_append.1 hx with hx|hx
   ·have:=hbl x hx;omega
   rw[List.mem_singleton.1 hx];show clock<clock+1;omega
  rw[List.nodup_append];exact⟨hnd,by simp,fun x hx y hy e=>hn (by simp at hy;rw[<-hy,<-e];exact hx)⟩
 exact absurd he (hne e0 (jx hj))
theorem q8j(Kd:Keyed P K)(hT:P.underlying T=some (.map K E))(hz:∀w,(zeroValue E).run P w=.ok (.int .i64 0) w)(hk:keyOf P K k=some lk)(h:zK P K w b ks n)(hn:k∈ks):∃c:Int,1<=c/\c<=n/\q9N P K T w b ks n k c ks:=by
 obtain⟨es,clock,hb,hks,hkl,hvl,hpb,hbl,hnd⟩:=h;rcases Kd.find w hk es.toList hkl with⟨-,hne⟩|⟨j,e0,f2,hj,he⟩
 ·rw[<-hks]at hn
  obtain⟨x,hx,e⟩:=List.mem_map.1 hn;exact absurd e (hne x hx)
 have qbf:=jx hj;obtain⟨c,hc,hc1,hc2⟩:=hvl e0 qbf;rw[hc]at f2;have hl0:=(tU (w:=w) Kd hT (hz w) hk hb).2 _ _ f2;have hja:es[j]? =some e0:=by simpa using hj
 have qff:(es.modify j fun e=>{e with key:=k})=es:=by
  refine Array.ext_getElem? fun i=>?_;rw[Array.getElem?_modify];by_cases hji:j=i
  ·subst hji
   rw[qt rfl,hja,jM,<-he]
  rw[qr hji]
 have hb1:=wY hb (.map es clock);obtain⟨w1,hw1⟩:∃w1:World,w1={w with heap:=w.heap.setIfInBounds b (.map es clock)}:=⟨_,rfl⟩
 have hr1:(Instr.mapEntry T (.map (some b)) k).run P w=.ok (.tuple #[.int .i64 c,.int .i64 e0.born]) w1:=by
  simp[Instr.mapEntry,run_underlying hT,MapKept.run_getObj_map hb,Kd.check w _ hk,f2,hja,he,Kd.stays w hk,Result.andThen,MapKept.run_setObj_map _ hb,hw1,goInt,qff]
 have hg1:w.grownBy w1 (some b):=by rw[hw1];exact nW w b _
 rw[<-hw1]at hb1
 have hlt:j<es.size:=by
  have:=(List.getElem?_eq_some_iff.1 hj).1;simpa using this
 have hfi:es.findIdx? (fun e=>(e.born:Int)==(e0.born:Int))=some j:=by
  rw[Array.findIdx?_eq_some_iff_getElem];have e1:es[j]=e0:=by rw[Array.getElem?_eq_getElem hlt]at hja;injection hja
  refine⟨hlt,by rw[e1];simp,fun i hi=>?_⟩;have hil:i<es.toList.length:=by rw[qN];omega
  have h1:=E3 hpb (i:=i) (j:=j) (by rw[qy];exact hil) (by rw[qy,qN];exact hlt) hi;simp only[jt,Array.getElem_toList,e1]at h1;simp;omega
 have hb2:=wY hb1 (.map (es.modify j fun e=>{e with val:=.int .i64 (c+1)}) clock);obtain⟨w2,hw2⟩:∃w2:World,w2={w1 with heap:=w1.heap.setIfInBounds b (.map (es.modify j fun e=>{e with val:=.int .i64 (c+1)}) clock)}:=⟨_,rfl⟩
 have hr2:(Instr.entryStore T (.map (some b)) (.int .i64 (e0.born:Int)) (.int .i64 (c+1))).run P w1=.ok () w2:=by
  exact ZmA10
 have hg2:w1.grownBy w2 (some b):=by rw[hw2];exact nW w1 b _
 rw[<-hw2]at hb2;have e2:(es.modify j fun e=>{e with val:=.int .i64 (c+1)}).toList=es.toList.modify j fun e=>{e with val:=.int .i64 (c+1)}:=Array.toList_modify;have hm1:(es.modify j fun e=>{e with val:=.int .i64 (c+1)}).toList.map (·.key)=ks:=by rw[e2];exact(zL es.toList j (fun e:MapEntry=>{e with val:=.int .i64 (c+1)}) (fun e:MapEntry=>e.key) (fun _=>rfl)).trans hks
 have qgU:∀x∈(es.modify j fun e=>{e with val:=.int .i64 (c+1)}).toList,∃l,keyOf P K x.key=some l:=fun x hx=>by
  rw[e2]at hx;rcases tV hx with hx|⟨a,ha,rfl⟩
  ·exact hkl x hx
  exact hkl a ha
 have qiF:(es.toList.map (·.key)).Nodup:=by rw[hks];exact hnd
 have f1:=V1 Kd hk hkl qiF hj he w1;rw[hc]at f1
 have hj2:((es.modify j fun e=>{e with val:=.int .i64 (c+1)}).toList)[j]? =some {e0 with val:=.int .i64 (c+1)}:=by
  rw[e2,List.getElem?_modify,hj];simp
 have f3:=V1 Kd hk qgU (by rw[hm1];exact hnd) hj2 he w2;refine⟨c,hc1,hc2,⟨_,w1,w2,hr1,hl0,(tU (w:=w1) Kd hT (hz w1) hk hb1).2 _ _ f1,hr2,(tU (w:=w2) Kd hT (hz w2) hk hb2).2 _ _ f3,hg1,aC hg1 hg2,?_⟩⟩;refine⟨_,_,hb2,hm1,qgU,fun x hx=>?_,?_,fun x hx=>?_,hnd⟩
 ·rw[e2]at hx
  rcases tV hx with hx|⟨a,ha,rfl⟩
  ·obtain⟨c',h1,h2,h3⟩:=hvl x hx;exact⟨c',h1,h2,by omega⟩
  exact⟨c+1,rfl,by omega,by omega⟩
 ·rw[e2]
  rw[show(es.toList.modify j fun e:MapEntry=>{e with val:=.int .i64 (c+1)}).map (·.born)=es.toList.map (·.born)from zL es.toList j (fun e:MapEntry=>{e with val:=.int .i64 (c+1)}) (fun e:MapEntry=>e.born) (fun _=>rfl)];exact hpb
 rw[e2]at hx;rcases tV hx with hx|⟨a,ha,rfl⟩
 ·exact hbl x hx
 exact hbl a ha
end
end Go.Cm
namespace Go.Cm
section
variable {α β : Type} [DecidableEq β]
def bL(f:α->β)(l:List α):List α:=l.foldl (fun ks s=>if f s∈ks.map f then ks else ks++[s]) []
theorem e8(f:α->β)(l:List α)(s:α):bL f (l++[s])=if f s∈(bL f l).map f then bL f l else bL f l++[s]:=by
 unfold bL;rw[qV];rfl
theorem iA{α:Type}{P:List α->Prop}(h0:P [])(h:∀l a,P l->P (l++[a]))(l:List α):P l:=by
 exact ZmA5
theorem kV(f:α->β)(l:List α):(bL f l).map f=eW (l.map f):=by
 induction l using iA with
 |h0=>rfl
 |h l s ih=>
  rw[qD,qF,jq,i6,e8,<-ih];unfold aW;split
  ·rfl
  simp
theorem kW{f:α->β}{l:List α}{x:α}(h:x∈bL f l):x∈l:=by
 induction l using iA with
 |h0=>cases h
 |h l s ih=>
  rw[e8]at h;split at h
  ·exact qZ _ (ih h)
  exact ZmA13
theorem tW(f:α->β)(l:List α):(bL f l).length<=l.length:=by
 have h:=qW List.length (kV f l);rw[qy]at h;rw[h];have:=rX (l.map f);rwa [qy]at this
theorem sE(f:α->β)(l m:List α):∃k,bL f (l++m)=bL f l++k:=by
 induction m using iA with
 |h0=>exact⟨[],by simp⟩
 |h m s ih=>
  obtain⟨k,hk⟩:=ih;rw[<-qj,e8];split
  ·exact⟨k,hk⟩
  exact⟨k++[s],by rw[hk,qj]⟩
def iV(f:α->β)(l:List α)(s:α):Nat:=idx ((bL f l).map f) (f s)
theorem E4{f:α->β}{l:List α}{s:α}(h:s∈l):iV f l s<(bL f l).length:=by
 have:f s∈(bL f l).map f:=by rw[kV,dP];exact jb h
 have:=fX this;simpa[iV]using this
theorem lQ{f:α->β}{l m:List α}{s:α}(h:s∈l):iV f (l++m) s=iV f l s:=by
 obtain⟨k,hk⟩:=sE f l m;unfold iV;rw[hk,qD,cV];rw[kV,dP];exact jb h
theorem vB{γ:Type} [DecidableEq γ]{f:α->β}{g:α->γ}{l:List α}(h:∀a∈l,∀b∈l,f a=f b↔g a=g b):bL f l=bL g l/\∀s∈l,iV f l s=iV g l s:=by
 have h1:bL f l=bL g l:=by
  have:∀m,(∀a∈m,a∈l)->bL f m=bL g m:=by
   intro m
   induction m using iA with
   |h0=>intro _;rfl
   |h m s ih=>
    intro hm;have ih:=ih fun a ha=>hm a (qZ _ ha);have hs:=hm s (by simp);rw[e8,e8,<-ih]
    have e:f s∈(bL f m).map f↔g s∈(bL f m).map g:=by
     simp only[jy]
     constructor
     ·rintro⟨a,ha,he⟩;exact⟨a,ha,(h a (hm a (qZ _ (kW ha))) s hs).1 he⟩
     rintro⟨a,ha,he⟩;exact⟨a,ha,(h a (hm a (qZ _ (kW ha))) s hs).2 he⟩
    simp only[e]
  exact this l fun _ h=>h
 refine⟨h1,fun s hs=>?_⟩;unfold iV;rw[<-h1]
 have:∀m:List α,(∀a∈m,a∈l)->idx (m.map f) (f s)=idx (m.map g) (g s):=by
  intro m;unfold idx
  induction m with
  |nil=>intro _;simp
  |cons a m ih=>
   exact ZmA4
 exact this _ fun a ha=>kW ha
end
section
variable {α β : Type} [DecidableEq β] {f : α → β} {l F : List α} {k q : Nat} {s z : α}
theorem lE(hk:k<l.length)(hs:l.getD k z=s):l.take (k+1)=l.take k++[s]:=by
 rw[qI hk,<-hs];simp[List.getD,hk]
theorem q00(l:List β)(q:Nat)(x:β)(h:l[q]? =some x):l.idxOf x<=q:=by
 induction l generalizing q with
 |nil=>simp at h
 |cons a l ih=>
  rw[List.idxOf_cons];cases q with
  |zero=>simp at h;subst h;simp
  |succ q=>
   have:=ih q (by simpa using h);cases a==x
   ·simpa using this
   simp
theorem V2(hk:k<l.length)(hs:l.getD k z=s)(hF:bL f (l.take k)=F)(hq:q<F.length)(h1:∀a,a<q->f (F.getD a z)≠f s)(h2:f (F.getD q z)=f s):bL f (l.take (k+1))=F/\iV f l s=q:=by
 have e:=lE hk hs;have hm:f s∈F.map f:=List.mem_map.2 ⟨F.getD q z,dH F q z hq,h2⟩;have h3:bL f (l.take (k+1))=F:=by rw[e,e8,hF,qt hm]
 refine⟨h3,?_⟩;have h4:=lQ (f:=f) (l:=l.take (k+1)) (m:=l.drop (k+1)) (s:=s) (by rw[e];simp);rw[j5]at h4;rw[h4];unfold iV;rw[h3];unfold idx;have h5:(F.map f).idxOf (f s)<(F.map f).length:=List.idxOf_lt_length_of_mem hm;have h6:=List.getElem_idxOf h5;rw[qy]at h5;rw[jt]at h6;rcases Nat.lt_trichotomy ((F.map f).idxOf (f s)) q with h|h|h
 ·exact absurd (by rw[qq,qv h5];exact h6) (h1 _ h)
 ·exact h
 exfalso
 have h7:(F.map f)[q]? =some (f s):=by
  rw[qQ,qv hq,jM,<-h2,qq,qv hq,qJ]
 have h8:=q00 _ _ _ h7;omega
theorem q2e(hk:k<l.length)(hs:l.getD k z=s)(hF:bL f (l.take k)=F)(h1:∀a,a<F.length->f (F.getD a z)≠f s):bL f (l.take (k+1))=F++[s]/\iV f l s=F.length:=by
 have e:=lE hk hs
 have hm:f s∉F.map f:=fun h=>by
  obtain⟨x,hx,he⟩:=List.mem_map.1 h;obtain⟨a,ha,rfl⟩:=List.mem_iff_getElem.1 hx;exact h1 a ha (by rw[qq,qv ha];exact he)
 have h3:bL f (l.take (k+1))=F++[s]:=by rw[e,e8,hF,qr hm]
 refine⟨h3,?_⟩;have h4:=lQ (f:=f) (l:=l.take (k+1)) (m:=l.drop (k+1)) (s:=s) (by rw[e];simp);rw[j5]at h4;rw[h4];unfold iV;rw[h3,qD,qF,jq,dN hm,qy]
end
theorem wZ{α:Type} [DecidableEq α](l m:List α):eW (l++m)=m.foldl aW (eW l):=by unfold eW;rw[qV]
theorem cR{α:Type} [DecidableEq α](m l:List α):∃k,m.foldl aW l=l++k:=by
 induction m generalizing l with
 |nil=>exact⟨[],by simp⟩
 |cons a m ih=>
  exact ZmA12
theorem x8{α:Type} [DecidableEq α](l m:List α):∃k,eW (l++m)=eW l++k:=by
 rw[wZ];exact cR m (eW l)
section
variable {α β : Type} [DecidableEq β] {f : α → β}
theorem mH(f:α->β):∀(m l:List α),bE (bL f l).length (nl (m.map (iV f (l++m))))=some (bL f (l++m)).length
 |[],l=>by simp[nl,bE]
 |a::m,l=>by
  have e:iV f (l++a::m) a=iV f (l++[a]) a:=by
   rw[show l++a::m=l++[a]++m by simp];exact lQ (by simp)
  have ih:=mH f m (l++[a]);rw[show l++[a]++m=l++a::m by simp]at ih;simp only[nl,qF,bE,e]at ih⊢;by_cases h:f a∈(bL f l).map f
  ·have h1:bL f (l++[a])=bL f l:=by rw[e8,qt h]
   have h2:=E4 (f:=f) (l:=l++[a]) (s:=a) (by simp);rw[h1]at h2 ih;rw[qr (by omega),qr (by omega)];exact ih
  have h1:bL f (l++[a])=bL f l++[a]:=by rw[e8,qr h]
  have h2:iV f (l++[a]) a=(bL f l).length:=by
   unfold iV;rw[h1,qD,qF,jq,dN h,qy]
  rw[h1,qi,qB]at ih;rw[qr (by omega),qt (by omega)];exact ih
end
end Go.Cm
namespace Go.Cm
open Go.RowKit Go.Proofs
def vL(w:World)(v:Value)(ll:List (List Value)):Prop:=∃vs,Sl w v vs/\vs.length=ll.length/\∀i,i<ll.length->Sl w (vs.getD i undef) (ll.getD i [])
theorem vL.up{w w':World}{v:Value}{ll:List (List Value)}(h:vL w v ll)(hb:Below w.heap.size w w'):vL w' v ll:=by
 exact ZmA15
theorem vL.open{w:World}{v:Value}{ll:List (List Value)}(h:vL w v ll):
  ∃oa cap b off,v=.slice oa ll.length cap/\Hd w oa ll.length cap b off/\∀i,i<ll.length->
   ∃oi ci bi fi,w.cell? ⟨b,off+i,none⟩=some (.slice oi (ll.getD i []).length ci)/\Hd w oi (ll.getD i []).length ci bi fi/\
    (∀j,j<(ll.getD i []).length->w.cell? ⟨bi,fi+j,none⟩=some ((ll.getD i []).getD j undef))/\Sl w (.slice oi (ll.getD i []).length ci) (ll.getD i []):=by
 obtain⟨vs,⟨oa,cap,b,off,rfl,hd,hc⟩,h2,h3⟩:=h;rw[h2]at hd hc⊢;refine⟨oa,cap,b,off,rfl,hd,fun i hi=>?_⟩;have h4:=h3 i hi;obtain⟨oi,ci,bi,fi,he,hdi,hci⟩:=h4;refine⟨oi,ci,bi,fi,?_,hdi,hci,?_⟩
 ·rw[hc i hi,he]
 rw[<-he];exact h3 i hi
theorem E5(ll:List (List Int))(i:Nat):(ll.map ints).getD i []=ints (ll.getD i []):=by
 simp only[qq,qQ];cases ll[i]? <;>simp[ints]
theorem vL.ints{w:World}{v:Value}{ll:List (List Int)}(h:vL w v (ll.map ints)):mG w v ll:=by
 obtain⟨vs,h1,h2,h3⟩:=h;refine⟨vs,h1,by simpa using h2,fun i hi=>?_⟩;have:=h3 i (by simpa using hi);rwa [E5]at this
structure dV(w:World)(B E E':Nat)(v:Value)(vs:List Value)(ll:List (List Value)):Prop where
 outer:Own w B E v vs
 len:vs.length=ll.length
 rows:∀i,i<ll.length->Own w B E' (vs.getD i undef) (ll.getD i [])
 apart:∀i j,i<ll.length->j<ll.length->i≠j->∀k,(vs.getD i undef).ownBlock=some k->(vs.getD j undef).ownBlock≠some k
 off:∀i,i<ll.length->∀k,(vs.getD i undef).ownBlock=some k->v.ownBlock≠some k
variable {w w' : World} {B E E' : Nat} {v : Value} {vs : List Value} {ll : List (List Value)}
theorem dV.nil(w:World)(B E E':Nat):dV w B E E' (.slice none 0 0) [] []:=⟨Own.nil w B E,rfl,fun i hi=>absurd hi (qz i),fun i _ hi=>absurd hi (qz i),fun i hi=>absurd hi (qz i)⟩
theorem dV.rowsG(h:dV w B E E' v vs ll):vL w v ll:=⟨vs,h.outer.sl,h.len,fun i hi=>(h.rows i hi).sl⟩
theorem bR{u:Value}{row:Option Nat}(h:∀k,u.ownBlock=some k->row≠some k):u.ownBlock=none\/u.ownBlock≠row:=by
 cases hu:u.ownBlock with
 |none=>exact .inl rfl
 |some k=>exact .inr (fun e=>h k hu e.symm)
theorem dV.keep(h:dV w B E E' v vs ll){row:Option Nat}(hg:w.grownBy w' row)(hv:∀k,v.ownBlock=some k->row≠some k)(hr:∀i,i<ll.length->∀k,(vs.getD i undef).ownBlock=some k->row≠some k):dV w' B E E' v vs ll:=
 ⟨h.outer.keep hg (bR hv),h.len,fun i hi=>(h.rows i hi).keep hg (bR (hr i hi)),h.apart,h.off⟩
theorem dV.up(h:dV w B E E' v vs ll)(hb:Below w.heap.size w w'):dV w' B E E' v vs ll:=
 h.keep (row:=none) (aE hb none) (fun _ _ e=>by cases e) (fun _ _ _ _ e=>by cases e)
def dV.free(v:Value)(vs:List Value)(row:Option Nat):Prop:=(∀k,v.ownBlock=some k->row≠some k)/\∀i,i<vs.length->∀k,(vs.getD i undef).ownBlock=some k->row≠some k
theorem dV.keep'(h:dV w B E E' v vs ll){row:Option Nat}(hg:w.grownBy w' row)(hf:dV.free v vs row):dV w' B E E' v vs ll:=
 h.keep hg hf.1 fun i hi=>hf.2 i (by rw[h.len];exact hi)
theorem dV.free_new(h:dV w B E E' v vs ll){k:Nat}(hk:w.heap.size<=k):dV.free v vs (some k):=
 ⟨fun q hq e=>by have:=h.outer.lt q hq;injection e with e;omega,fun i hi q hq e=>by have:=(h.rows i (by rw[<-h.len];exact hi)).lt q hq;injection e with e;omega⟩
theorem dV.free_none:dV.free v vs none:=⟨fun _ _ e=>(by cases e),fun _ _ _ _ e=>(by cases e)⟩
theorem dV.free_below(h:dV w B E E' v vs ll){k:Nat}(hk:k<B):dV.free v vs (some k):=
 ⟨fun q hq e=>by have:=h.outer.lt q hq;injection e with e;omega,fun i hi q hq e=>by have:=(h.rows i (by rw[<-h.len];exact hi)).lt q hq;injection e with e;omega⟩
theorem bS{α:Type}{l m:List α}{i:Nat}{d:α}(h:i<l.length):(l++m).getD i d=l.getD i d:=by simp[List.getD,qS h]
theorem cT{α:Type}{l:List α}{x d:α}:(l++[x]).getD l.length d=x:=by simp[List.getD]
theorem dC{α:Type}{l:List α}{i j:Nat}{x d:α}(h:i≠j):(l.set i x).getD j d=l.getD j d:=by simp[List.getD,h]
theorem d8{α:Type}{l:List α}{i:Nat}{x d:α}(h:i<l.length):(l.set i x).getD i d=x:=by simp[List.getD,h]
theorem dV.push(h:dV w B E E' v vs ll){r:Value}{xs:List Value}(hr:Own w B E' r xs)(hf:dV.free v vs r.ownBlock){v':Value}{w0:World}(hw0:w.grownBy w0 none)(ho:Own w' B E v' (vs++[r]))(hg:w0.grownBy w' v.ownBlock)(hk:∀k,v'.ownBlock=some k->v.ownBlock=some k\/w0.heap.size<=k):
  dV w' B E E' v' (vs++[r]) (ll++[xs]):=by
 have hg':w.grownBy w' v.ownBlock:=aC ⟨hw0.os,hw0.tape,hw0.output,hw0.size,fun k hk _=>hw0.block k hk (by simp)⟩ hg;have hvr:∀k,r.ownBlock=some k->v.ownBlock≠some k:=fun k hk e=>hf.1 k e hk;have hrow:∀i,i<ll.length->Own w' B E' (vs.getD i undef) (ll.getD i []):=fun i hi=>(h.rows i hi).keep hg' (bR (h.off i hi));have hl:=h.len
 have idx:∀i,i<(ll++[xs]).length->(i<ll.length/\(vs++[r]).getD i undef=vs.getD i undef/\(ll++[xs]).getD i []=ll.getD i [])\/(i=ll.length/\(vs++[r]).getD i undef=r/\(ll++[xs]).getD i []=xs):=by
  intro i hi;rw[qi,qB]at hi;rcases Nat.lt_succ_iff_lt_or_eq.1 hi with h1|rfl
  ·exact .inl ⟨h1,bS (by omega),bS h1⟩
  exact .inr ⟨rfl,by rw[<-hl];exact cT,cT⟩
 refine⟨ho,by simp[hl],fun i hi=>?_,fun i j hi hj hne k hik=>?_,fun i hi k hik=>?_⟩
 ·rcases idx i hi with⟨h1,e1,e2⟩|⟨h1,e1,e2⟩
  ·rw[e1,e2];exact hrow i h1
  rw[e1,e2];exact hr.keep hg' (bR hvr)
 ·rcases idx i hi with⟨h1,e1,e2⟩|⟨h1,e1,e2⟩<;>rcases idx j hj with⟨h3,e3,e4⟩|⟨h3,e3,e4⟩<;>rw[e1]at hik<;>rw[e3]
  ·exact h.apart i j h1 h3 hne k hik
  ·exact hf.2 i (by omega) k hik
  ·intro e;exact hf.2 j (by omega) k e hik
  omega
 have hsz:w.heap.size<=w0.heap.size:=hw0.size;rcases idx i hi with⟨h1,e1,e2⟩|⟨h1,e1,e2⟩<;>rw[e1]at hik<;>intro e
 ·rcases hk k e with h2|h2
  ·exact h.off i h1 k hik h2
  have:=(h.rows i h1).lt k hik;omega
 rcases hk k e with h2|h2
 ·exact hvr k hik h2
 have:=hr.lt k hik;omega
theorem dV.writeRow(h:dV w B E E' v vs ll){i:Nat}(hi:i<ll.length){xs:List Value}(hr:Own w' B E' (vs.getD i undef) xs)(hg:w.grownBy w' (vs.getD i undef).ownBlock):dV w' B E E' v vs (ll.set i xs):=by
 refine⟨h.outer.keep hg (bR fun k hk e=>h.off i hi k e hk),by simp[h.len],fun j hj=>?_,fun a b ha hb=>h.apart a b (by simpa using ha) (by simpa using hb),fun a ha=>h.off a (by simpa using ha)⟩;rw[j8]at hj;by_cases hij:i=j
 ·subst hij;rw[d8 hi];exact hr
 rw[dC hij];exact(h.rows j hj).keep hg (bR fun k hk e=>h.apart i j hi hj hij k e hk)
theorem dV.setRow{g:Nat}{n cap:Nat}(h:dV w B E E' (.slice (some ⟨g,0,none⟩) n cap) vs ll){i:Nat}(hi:i<ll.length){r:Value}{xs:List Value}(hr:Own w' B E' r xs)(hg:w.grownBy w' (vs.getD i undef).ownBlock)(hk:∀k,r.ownBlock=some k->(vs.getD i undef).ownBlock=some k\/w.heap.size<=k):
  dV (w'.setCell ⟨g,i,none⟩ r) B E E' (.slice (some ⟨g,0,none⟩) n cap) (vs.set i r) (ll.set i xs)/\w'.grownBy (w'.setCell ⟨g,i,none⟩ r) (some g):=by
 have ho:Own w' B E (.slice (some ⟨g,0,none⟩) n cap) vs:=h.outer.keep hg (bR fun k hk e=>h.off i hi k e hk);obtain⟨h1,h2⟩:=ho.store i r;have hgb:=h.outer.blk;have hvi:i<vs.length:=by rw[h.len];exact hi
 have hrg:∀k,r.ownBlock=some k->k≠g:=fun k hk' e=>by
  rcases hk k hk' with h3|h3
  ·exact h.off i hi k h3 (by rw[e];rfl)
  omega
 refine⟨⟨h1,by simp[h.len],fun j hj=>?_,fun a b ha hb hne k hak=>?_,fun a ha k hak=>?_⟩,h2⟩
 ·rw[j8]at hj
  by_cases hij:i=j
  ·subst hij;rw[d8 hvi,d8 hi]
   exact hr.keep h2 (bR fun k hk' e=>hrg k hk' (by injection e with e;exact e.symm))
  rw[dC hij,dC hij];exact((h.rows j hj).keep hg (bR fun k hk e=>h.apart i j hi hj hij k e hk)).keep h2 (bR fun k hk' e=>h.off j hj k hk' (by simpa[Value.ownBlock]using e))
 ·rw[j8]at ha hb
  by_cases hia:i=a<;>by_cases hib:i=b
  ·omega
  ·subst hia
   rw[d8 hvi]at hak;rw[dC hib];rcases hk k hak with h3|h3
   ·exact h.apart i b hi hb hib k h3
   intro e;have:=(h.rows b hb).lt k e;omega
  ·subst hib
   rw[dC hia]at hak;rw[d8 hvi];intro e;rcases hk k e with h3|h3
   ·exact h.apart a i ha hi (fun q=>hia q.symm) k hak h3
   have:=(h.rows a ha).lt k hak;omega
  rw[dC hia]at hak;rw[dC hib];exact h.apart a b ha hb hne k hak
 rw[j8]at ha;by_cases hia:i=a
 ·subst hia;rw[d8 hvi]at hak
  intro e;simp[Value.ownBlock]at e;exact hrg k hak e.symm
 rw[dC hia]at hak;exact h.off a ha k hak
theorem Own.storeList{B:Nat}{E:TypeId}{g n cap:Nat}(ys:List Value):∀{w:World} {xs:List Value} (o:Nat),Own w B E (.slice (some ⟨g,0,none⟩) n cap) xs->o+ys.length<=xs.length->
  Own (w.setCells g o ys) B E (.slice (some ⟨g,0,none⟩) n cap) (xs.take o++ys++xs.drop (o+ys.length))/\w.grownBy (w.setCells g o ys) (some g):=by
 induction ys with
 |nil=>intro w xs o h hl;simp only[World.setCells];exact⟨by simpa using h,cW w _⟩
 |cons y ys ih=>
  intro w xs o h hl;rw[qx]at hl;obtain⟨h1,h2⟩:=h.store o y;obtain⟨h3,h4⟩:=ih (o+1) h1 (by rw[j8];omega);refine⟨?_,aC h2 h4⟩
  have e:(xs.set o y).take (o+1)++ys++(xs.set o y).drop (o+1+ys.length)=xs.take o++y::ys++xs.drop (o+(y::ys).length):=by
   rw[List.take_set,qI (by omega),List.set_append_right _ _ (by simp[Nat.min_le_left]),List.drop_set_of_lt (by omega)];simp[Nat.min_eq_left (show o<=xs.length by omega),show o+1+ys.length=o+(ys.length+1) by omega]
  rw[<-e];exact h3
theorem bD{P:Program}{ops:Array Oper}{rest:List Oper}{o:Oper}{a:Act}{w:World}{Q:Exit->Act->World->Prop}(hgd:o.guard=none)(ty:TypeId)(x y:Operand)(ho:o.op=.store ty x y)
  (B E g n cap:Nat) (hx:a.eval x=.pointer (some ⟨g,0,none⟩)) (C:Array Value) (hy:a.eval y=.agg C) (hi:(P.info? ty).map (·.size)=some C.size) (xs:List Value) (hown:Own w B E (.slice (some ⟨g,0,none⟩) n cap) xs) (hle:C.size<=xs.length) (h1:∀u∈C.toList,u.oneCell'=true)
  (h:∀w',Own w' B E (.slice (some ⟨g,0,none⟩) n cap) (C.toList++xs.drop C.size)->w.grownBy w' (some g)->wpList P ops Q rest (a.put o.dst undef) w'):wpList P ops Q (o::rest) a w:=by
 have hst:=run_storeCells_cells (P:=P) g 0 C.toList 0 w (fun j hj=>by
   rw[qN]at hj;rw[qE,hown.cell (by omega)];rfl) (fun j _=>by rw[qE];exact hown.free j) h1
 have hl:=hown.storeList C.toList 0 (by simpa using hle);rw[List.take_zero,List.nil_append,qE,qN]at hl;refine wpList_plain hgd fun K hK=>?_
 have hsz:(sizeOf ty).run P w=.ok C.size w:=by
  cases hq:P.info? ty with
  |none=>simp[hq]at hi
  |some i=>simp[hq]at hi;simp[sizeOf,typeInfo,hq,hi]
 unfold Oper.wp execOp;simp only[ho,hx,hy,Instr.storeAt,Instr.sureAddr,storeVar,Value.cells,Sem.run_bind,Sem.run_pure,Result.andThen_ok,hsz,ne_eq,not_true_eq_false,jp,hst];exact hK _ _ (h _ hl.1 hl.2)
structure tH(w:World)(T n g:Nat)(cl:List Int):Prop where
 own:Own w g T (.slice (some ⟨g,0,none⟩) n n) (ints cl)
 len:cl.length=n
section
variable {w w' : World} {T n g : Nat} {cl : List Int}
theorem tH.keep{row:Option Nat}(h:tH w T n g cl)(hg:w.grownBy w' row)(hne:row≠some g):tH w' T n g cl:=⟨h.own.keep hg (.inr (fun e=>hne e.symm)),h.len⟩
theorem tH.up(h:tH w T n g cl)(hb:Below w.heap.size w w'):tH w' T n g cl:=⟨h.own.up hb,h.len⟩
theorem tH.lt(h:tH w T n g cl):g<w.heap.size:=(h.own.lt g rfl).2
theorem tH.cell(h:tH w T n g cl){c:Nat}(hc:c<n):w.cell? ⟨g,c,none⟩=some (.int .i64 (cl.getD c 0)):=by
 rw[h.own.cell (by rw[aV,h.len];exact hc),eS _ _ (by rw[h.len];exact hc)]
theorem tH.free(h:tH w T n g cl)(c:Nat):w.frozen? ⟨g,c,none⟩=false:=h.own.free c
theorem tH.set(h:tH w T n g cl)(c:Nat)(k:Int):tH (w.setCell ⟨g,c,none⟩ (.int .i64 k)) T n g (cl.set c k)/\w.grownBy (w.setCell ⟨g,c,none⟩ (.int .i64 k)) (some g):=by
 obtain⟨h1,h2⟩:=h.own.store c (.int .i64 k);have e:(ints cl).set c (.int .i64 k)=ints (cl.set c k):=by simp[ints,a9]
 rw[e]at h1;exact⟨⟨h1,by simp[h.len]⟩,h2⟩
theorem tH.open(h:tH w T n g cl):∃A,w.heap[g]? =some (.cells A T (0,0))/\A.size=n/\A.toList=ints cl:=by
 rcases h.own.1.2 with⟨h1,_⟩|⟨g',cap,cur,h1,_,hg,hnc,hcm,hcs,qbh⟩
 ·cases h1
 simp only[Value.slice.injEq,jz,Addr.mk.injEq,and_true]at h1;obtain⟨rfl,h2,rfl⟩:=h1;have hl:(ints cl).length=n:=by rw[aV,h.len]
 have hs:cur.size=n:=by omega
 refine⟨cur,hg,hs,?_⟩;rw[<-qbh,qC];rw[qN];omega
theorem q4E(w:World)(T:Nat)(A:Array Value)(cl:List Int)(hA:A.toList=ints cl)(hn:cl.length<=4294967296):tH (w.alloc (.cells A T)) T cl.length w.heap.size cl:=by
 have hs:A.size=cl.length:=by rw[<-qN,hA,aV]
 have h:=bU w w.heap.size A T (by rw[hs];exact hn) (qb _);rw[hA,hs]at h;exact⟨h,rfl⟩
end
theorem oX{P:Program}{ops:Array Oper}{rest:List Oper}{o:Oper}{a:Act}{w:World}{Q:Exit->Act->World->Prop}(hgd:o.guard=none)(T n:Nat)(x:Operand)(ho:o.op=.load T x)
  (g:Nat) (hx:a.eval x=.pointer (some ⟨g,0,none⟩)) (A:Array Value) (hs:A.size=n) (hg:w.heap[g]? =some (.cells A T (0,0))) (d:TypeDesc) (hu:P.underlying T=some d) (hd:(match d with|.struct _|.array _ _=>true|_=>false)=true) (hi:(P.info? T).map (·.size)=some n)
  (h:wpList P ops Q rest (a.put o.dst (.agg A)) w):wpList P ops Q (o::rest) a w:=
 fS hgd T x ho g 0 n hx T A A (0,0) d hg hu hd hi (by rw[hs];omega) (by rw[<-hs];simp) h
theorem lV{P:Program}{C:World->Prop}{o:Oper}{a:Act}{K:Act->Prop}(T n:Nat)(x:Operand)(ho:o.op=.load T x)(g:Nat)(hx:a.eval x=.pointer (some ⟨g,0,none⟩))(A:Array Value)(hs:A.size=n)
  (hg:∀w',C w'->w'.heap[g]? =some (.cells A T (0,0))) (d:TypeDesc) (hu:P.underlying T=some d) (hd:(match d with|.struct _|.array _ _=>true|_=>false)=true) (hi:(P.info? T).map (·.size)=some n) (h:K (a.put o.dst (.agg A))):o.quiet P a C K:=by
 refine⟨.agg A,fun w' hw'=>?_,h⟩;have hl:=cQ (P:=P) w' g 0 n T T A (0,0) d (hg w' hw') hu hd hi (by rw[hs];omega);unfold Oper.quietAt execOp;simp only[ho,hx,Instr.loadAt,Instr.sureAddr,Sem.run_bind,Sem.run_pure,Result.andThen_ok,hl,Oper.quietUpon];exact⟨trivial,by rw[<-hs];simp⟩
theorem kG{P:Program}{fn:Func}{tmps:Array Value}{w:World}{a t b:Nat}{ad:Addr}{v:Value}(hf:fn.results=#[.cell a t,.tmp b])(ha:tmps.getD a undef=.pointer (some ad))(hl:(loadVar t ad).run P w=.ok v w):
  (results fn tmps).run P w=.ok (.tuple #[v,tmps.getD b undef]) w:=by
 have ha':tmps[a]?.getD undef=.pointer (some ad):=by simpa using ha
 simp[results,hf,asAddr,ha',hl]
theorem vM{P:Program}{fn:Func}{tmps:Array Value}{w:World}{a t b:Nat}{ad:Addr}{v:Value}(hf:fn.results=#[.tmp b,.cell a t])(ha:tmps.getD a undef=.pointer (some ad))(hl:(loadVar t ad).run P w=.ok v w):
  (results fn tmps).run P w=.ok (.tuple #[tmps.getD b undef,v]) w:=by
 have ha':tmps[a]?.getD undef=.pointer (some ad):=by simpa using ha
 simp[results,hf,asAddr,ha',hl]
theorem aX{P:Program}{fn:Func}{tmps:Array Value}{w:World}{ds:List Deferred}{s b t:Nat}{ad:Addr}{x y:Value}{R:Ending->World->Prop}(hf:fn.results=#[.cell s t,.tmp b])(ha:tmps.getD s undef=.pointer (some ad))(hb:tmps.getD b undef=y)(hd:ds=[])
  (hl:(loadVar t ad).run P w=.ok x w) (h:R (.returned (.tuple #[x,y])) w):bodyPost P fn R .ret ⟨tmps,ds⟩ w:=
 bodyPost_ret (v:=.tuple #[x,y]) (by rw[kG hf ha hl,hb]) hd h
theorem M9{P:Program}{fn:Func}{tmps:Array Value}{w:World}{ds:List Deferred}{s b t:Nat}{ad:Addr}{x y:Value}{R:Ending->World->Prop}(hf:fn.results=#[.tmp b,.cell s t])(ha:tmps.getD s undef=.pointer (some ad))(hb:tmps.getD b undef=y)(hd:ds=[])
  (hl:(loadVar t ad).run P w=.ok x w) (h:R (.returned (.tuple #[y,x])) w):bodyPost P fn R .ret ⟨tmps,ds⟩ w:=
 bodyPost_ret (v:=.tuple #[y,x]) (by rw[vM hf ha hl,hb]) hd h
theorem tH.load{P:Program}{w:World}{T n g:Nat}{cl:List Int}(h:tH w T n g cl)(d:TypeDesc)(hu:P.underlying T=some d)(hd:(match d with|.struct _|.array _ _=>true|_=>false)=true)(hi:(P.info? T).map (·.size)=some n):
  (loadVar T ⟨g,0,none⟩).run P w=.ok (.agg (ints cl).toArray) w:=by
 obtain⟨A,hg,hs,hA⟩:=h.open;have hl:=cQ (P:=P) w g 0 n T T A (0,0) d hg hu hd hi (by omega);have e:A.extract 0 (0+n)=(ints cl).toArray:=by rw[qE,<-hs,Array.extract_size,<-hA]
 rw[e]at hl;exact hl
end Go.Cm
namespace Go.Cm
structure Nd where
 kd:Int
 n:Int
 a:Int
 b:Int
 c:Int
 d:Int
 lo:Int
 hi:Int
inductive Fo where
 |nil:Fo
 |cons (x:Nd) (k r:Fo):Fo
def cO:Fo->List Nd
 |.nil=>[]
 |.cons x k r=>x::(cO k++cO r)
def cnt:Fo->Nat
 |.nil=>0
 |.cons _ _ r=>cnt r+1
def wf:Fo->Prop
 |.nil=>True
 |.cons x k r=>x.n=cnt k/\wf k/\wf r
def T9(p:Nd->Prop):Fo->Prop
 |.nil=>True
 |.cons x k r=>p x/\T9 p k/\T9 p r
theorem E7{p:Nd->Prop}:∀f,T9 p f↔∀x∈cO f,p x
 |.nil=>by simp[T9,cO]
 |.cons x k r=>by
  rw[T9,E7 k,E7 r,cO]
  constructor
  ·rintro⟨h1,h2,h3⟩ y hy
   rcases List.mem_cons.1 hy with rfl|hy
   ·exact h1
   rcases List.mem_append.1 hy with hy|hy
   ·exact h2 y hy
   exact h3 y hy
  intro h;exact⟨h x je,fun y hy=>h y (qU _ (qZ _ hy)),fun y hy=>h y (qU _ (List.mem_append_right _ hy))⟩
theorem vD:∀f,cnt f<=(cO f).length
 |.nil=>by simp[cnt,cO]
 |.cons x k r=>by have:=vD r;simp only[cnt,cO,qx,qi];omega
theorem kQ:∀f,cnt f=0->f=.nil
 |.nil,_=>rfl
 |.cons _ _ _,h=>by simp[cnt]at h
def L3(L:Nat):Int->List Nd->Nat->Int
 |_,[],_=> -1
 |want,x::r,at_=>if x.n<0\/(L:Int)<x.n then -1 else if want+(x.n-1)=0 then at_+1 else L3 L (want+(x.n-1)) r (at_+1)
theorem rG(L:Nat)(post:List Nd):∀(f:Fo),wf f->(cO f).length<=L->∀(w at_:Nat),0<cnt f+w->L3 L ((cnt f+w:Nat):Int) (cO f++post) at_=if w=0 then(at_:Int)+(cO f).length else L3 L w post (at_+(cO f).length)
 |.nil,_,_,w,at_,h=>by
  simp only[cnt,qE]at h;rw[qr (by omega)];simp[cnt,cO]
 |.cons x k r,hwf,hL,w,at_,h=>by
  obtain⟨hn,hk,hr⟩:=hwf;simp only[cO,qx,qi]at hL;have hck:=vD k;simp only[cO,jj,L3,cnt,qj];rw[qr (by omega)];have e:((cnt r+1+w:Nat):Int)+(x.n-1)=((cnt k+(cnt r+w):Nat):Int):=by rw[hn];push_cast;omega
  rw[e];by_cases h0:cnt k+(cnt r+w)=0
  ·rw[qt (by omega),qt (by omega)]
   have hk0:=kQ k (by omega);have hr0:=kQ r (by omega);subst hk0;subst hr0;simp[cO]
  rw[qr (by omega),rG L (cO r++post) k hk (by omega) (cnt r+w) (at_+1) (by omega)];by_cases h1:cnt r+w=0
  ·rw[qt h1,qt (by omega)]
   have hr0:=kQ r (by omega);subst hr0;simp only[cO,j4,qx]
   push_cast;omega
  rw[qr h1,rG L post r hr (by omega) w (at_+1+(cO k).length) (by omega)];simp only[qx,qi];by_cases h2:w=0
  ·rw[qt h2,qt h2];push_cast;omega
  rw[qr h2,qr h2]
  congr 1;omega
theorem q2f(L:Nat)(post:List Nd)(x:Nd)(k:Fo)(hn:x.n=cnt k)(hk:wf k)(hL:1+(cO k).length<=L)(at_:Nat):L3 L 1 (x::(cO k++post)) at_=(at_:Int)+(1+(cO k).length):=by
 have h:=rG L post (.cons x k .nil) ⟨hn,hk,trivial⟩ (by simp[cO];omega) 0 at_ (by simp[cnt]);simp only[cO,cnt,j4,jj,jG,qx]at h;have e:((0+1+0:Nat):Int)=1:=rfl;rw[e]at h;rw[h];push_cast;omega
theorem zM:∀(f:Fo) (n:Nat),wf f->n<=cnt f->∃a b,cnt a=n/\cnt b+n=cnt f/\cO f=cO a++cO b/\wf a/\wf b
 |f,0,hf,_=>⟨.nil,f,rfl,rfl,by simp[cO],trivial,hf⟩
 |.nil,n+1,_,h=>by simp[cnt]at h
 |.cons x k r,n+1,hf,h=>by
  obtain⟨h1,h2,h3⟩:=hf;obtain⟨a,b,e1,e2,e3,e4,e5⟩:=zM r n h3 (by simp[cnt]at h;omega);exact⟨.cons x k a,b,by simp[cnt,e1],by simp[cnt];omega,by simp[cO,e3],⟨h1,h2,e4⟩,e5⟩
theorem N0(L:Nat):∀(l:List Nd) (w at_:Nat),0<w->L3 L w l at_=(at_:Int)+l.length->∃f,cO f=l/\wf f/\cnt f=w
 |[],w,at_,_,h=>by simp only[L3,qK]at h;omega
 |x::r,w,at_,hw,h=>by
  simp only[L3]at h;by_cases h1:x.n<0\/(L:Int)<x.n
  ·rw[qt h1]at h;omega
  rw[qr h1]at h;by_cases h2:(w:Int)+(x.n-1)=0
  ·rw[qt h2]at h
   have hr:r=[]:=List.length_eq_zero_iff.1 (by simp only[qx]at h;push_cast at h;omega);subst hr;exact⟨.cons x .nil .nil,by simp[cO],⟨by simp only[cnt];omega,trivial,trivial⟩,by simp only[cnt];omega⟩
  rw[qr h2]at h;obtain⟨m,hm⟩:∃m:Nat,x.n=m:=⟨x.n.toNat,by omega⟩;have e:(w:Int)+(x.n-1)=((w+m-1:Nat):Int):=by omega
  rw[e]at h;obtain⟨f,e1,e2,e3⟩:=N0 L r (w+m-1) (at_+1) (by omega) (by rw[h];simp only[qx];push_cast;omega);obtain⟨a,b,c1,c2,c3,c4,c5⟩:=zM f m e2 (by omega);exact⟨.cons x a b,by rw[cO,<-c3,e1],⟨by rw[hm,c1],c4,c5⟩,by simp[cnt];omega⟩
def V3(x:Nd):Prop:=x.lo=0/\x.hi=0
def pO(x:Nd):Prop:=x.a=0/\x.b=0/\x.c=0/\x.d=0
instance(x:Nd):Decidable (V3 x):=by unfold V3;infer_instance
instance(x:Nd):Decidable (pO x):=by unfold pO;infer_instance
def okN(x:Nd):Prop:=
 (x.kd=1/\x.n=0/\¬pO x/\V3 x)\/(x.kd=2/\x.n=0/\pO x/\V3 x)\/((x.kd=3\/x.kd=4)/\2<=x.n/\pO x/\V3 x)\/((x.kd=5\/x.kd=6\/x.kd=7)/\x.n=1/\pO x/\V3 x)\/
  (x.kd=8/\x.n=1/\pO x/\0<=x.lo/\x.lo<=30/\(x.hi= -1\/(x.lo<=x.hi/\x.hi<=30)))
instance(x:Nd):Decidable (okN x):=by unfold okN;infer_instance
def Chk(l:List Nd):Prop:=l.length<=400/\l.length≠0/\L3 l.length 1 l 0=l.length/\∀x∈l,okN x
instance(l:List Nd):Decidable (Chk l):=by unfold Chk;infer_instance
theorem wB{l:List Nd}(h:Chk l):∃x k,l=x::cO k/\x.n=cnt k/\wf k/\okN x/\T9 okN k/\(cO k).length<400:=by
 obtain⟨h1,h2,h3,h4⟩:=h;obtain⟨f,e1,e2,e3⟩:=N0 l.length l 1 0 (by omega) (by simpa using h3);cases f with
 |nil=>simp[cnt]at e3
 |cons x k r=>
  have hr:=kQ r (by simpa[cnt]using e3);subst hr;simp only[cO,j4]at e1;subst e1;refine⟨x,k,rfl,e2.1,e2.2.1,h4 x je,(E7 k).2 fun y hy=>h4 y (qU _ hy),?_⟩;simp at h1;omega
def eY(x:Nd):Int:=if x.hi<0 then max x.lo 1 else x.hi
def pP(x:Nd)(s:Int):Int:=min (if x.kd=1\/x.kd=2 then 2 else if x.kd=4\/x.kd=5\/x.kd=6\/x.kd=7 then s+2 else if x.kd=8 then 2+eY x*s else s) 1000000
def gI:Fo->Int
 |.nil=>0
 |.cons x k r=>pP x (gI k)+gI r
theorem sF{x:Nd}(h:okN x)(h8:x.kd=8):0<=eY x/\eY x<=30:=by
 unfold okN at h;unfold eY;split<;>omega
theorem iW{x:Nd}{s:Int}(h:okN x)(hs:0<=s):0<=pP x s/\pP x s<=1000000:=by
 unfold pP;by_cases h8:x.kd=8
 ·have:=sF h h8
  have h2:0<=eY x*s:=Int.mul_nonneg this.1 hs
  (repeat' split)<;>omega
 (repeat' split)<;>omega
theorem kR:∀f,T9 okN f->0<=gI f/\gI f<=1000000*(cO f).length
 |.nil,_=>by simp[gI,cO]
 |.cons x k r,h=>by
  have h1:=kR k h.2.1;have h2:=kR r h.2.2;have h3:=iW h.1 h1.1;simp only[gI,cO,qx,qi]
  push_cast
  omega
theorem E8:∀(f g:Fo) (p q:List Nd),wf f->wf g->cnt f=cnt g->cO f++p=cO g++q->f=g/\p=q
 |.nil,g,p,q,_,_,hc,h=>by
  have hg:=kQ g (by simpa[cnt]using hc.symm);subst hg;exact⟨rfl,by simpa[cO]using h⟩
 |.cons x k r,.nil,p,q,_,_,hc,h=>by simp[cnt]at hc
 |.cons x k r,.cons y a b,p,q,hf,hg,hc,h=>by
  simp only[cO,jj,qj,List.cons.injEq]at h;obtain⟨rfl,h⟩:=h;have hkc:cnt k=cnt a:=by have h1:=hf.1;have h2:=hg.1;omega
  obtain⟨e1,h1⟩:=E8 k a _ _ hf.2.1 hg.2.1 hkc h;obtain⟨e2,h2⟩:=E8 r b _ _ hf.2.2 hg.2.2 (by simpa[cnt]using hc) h1;rw[e1,e2];exact⟨rfl,h2⟩
open Classical in
noncomputable def vE(l:List Nd):Fo:=if h:∃f,cO f=l/\wf f/\cnt f=1 then h.choose else .nil
theorem iM(x:Nd)(k:Fo)(hn:x.n=cnt k)(hk:wf k):vE (x::cO k)=.cons x k .nil:=by
 have h:∃f,cO f=x::cO k/\wf f/\cnt f=1:=⟨.cons x k .nil,by simp[cO],⟨hn,hk,trivial⟩,rfl⟩;unfold vE;rw[dif_pos h];obtain⟨h1,h2,h3⟩:=h.choose_spec;exact(E8 _ (.cons x k .nil) [] [] h2 ⟨hn,hk,trivial⟩ h3 (by rw[h1];simp[cO])).1
noncomputable def iH(l:List Nd):Int:=if Chk l then gI (vE l)else 0
theorem q01(l:List Nd):0<=iH l/\iH l<=1000000:=by
 unfold iH;split
 ·next h=>
  obtain⟨x,k,rfl,h1,h2,h3,h4,-⟩:=wB h;rw[iM x k h1 h2];simp only[gI,Int.add_zero];exact iW h3 (kR k h4).1
 omega
noncomputable def rH(ll:List (List Nd)):Int:=
 if ll.length=0 then 17 else if 32<ll.length then 3 else if¬∀l∈ll,Chk l then 4 else if 3000<1+(ll.map iH).sum then 3 else 0
end Go.Cm
namespace Go.Cm
open Go.RowKit
section
variable {P : Program} {ops : Array Oper} {md : Region.Mode} {C : World → Prop} {o3 : List Nat}
def q4t(o3:List Nat)(listed:Array Bool):Bool:=o3.any fun t=>listed.getD t false
def sG(P:Program)(md:Region.Mode)(ops:Array Oper)(C:World->Prop)(o3:List Nat)(Q:Act->World->Prop):Nat->Array Bool->Act->World->Prop
 |0,listed,a,w=>(q4t o3 listed=false->C w)/\Region.ready md ops listed=[]/\Q a w
 |fuel+1,listed,a,w=>(q4t o3 listed=false->C w)/\(Region.ready md ops listed=[]->Q a w)/\
  ∀i∈Region.ready md ops listed,wpOp P ops noQ i (sG P md ops C o3 Q fuel (listed.setIfInBounds i true)) a w
theorem zQ{Q:Act->World->Prop}{Q':Exit->Act->World->Prop}(hQ:∀a w,Q a w->Q' .normal a w):∀(fuel:Nat) (listed:Array Bool) (a:Act) (w:World),
  sG P md ops C o3 Q fuel listed a w->wpAny P md ops Q' fuel listed a w
 |0,_,_,_,h=>⟨h.2.1,hQ _ _ h.2.2⟩
 |fuel+1,listed,a,w,h=>⟨fun h0=>hQ _ _ (h.2.1 h0),fun i hi=>by
   have h1:=wpOp_mono (fun a w=>zQ (Q':=Q') hQ fuel _ a w) (h.2.2 i hi);unfold wpOp at h1⊢;split
   ·rename_i ho;simpa[ho]using h1
   rename_i o ho;simp only[ho]at h1;split
   ·exact ZmA9
   rename_i hw;simpa[hw]using h1⟩
def xE(md:Region.Mode)(ops:Array Oper)(listed:Array Bool):Prop:=∀(j:Nat) (oj:Oper),ops[j]? =some oj->listed.getD j false=true->∀e∈oj.after,Region.binds md e=true->listed.getD e.on false=true
theorem xE.set{listed:Array Bool}{j:Nat}(h:xE md ops listed)(hj:j∈Region.ready md ops listed):xE md ops (listed.setIfInBounds j true):=by
 obtain⟨_,oj,hoj,hall⟩:=mem_ready.1 hj;intro k ok hok hl e he hb;by_cases hjk:j=k
 ·subst hjk
  have:ok=oj:=qo (hok.symm.trans hoj);subst this;exact getD_set_true (hall e he hb)
 rw[getD_set_ne false hjk]at hl;exact getD_set_true (h k ok hok hl e he hb)
def anc(md:Region.Mode)(ops:Array Oper):Nat->Nat->Nat->Bool
 |0,_,_=>false
 |f+1,i,t=>match ops[t]? with
  |some o=>o.after.any fun e=>Region.binds md e&&(e.on==i||anc md ops f i e.on)
  |none=>false
theorem zR{listed:Array Bool}(hc:xE md ops listed){i:Nat}:∀(f t:Nat),anc md ops f i t=true->listed.getD t false=true->listed.getD i false=true
 |0,_,h,_=>by cases h
 |f+1,t,h,ht=>by
  unfold anc at h;split at h
  ·rename_i o ho
   obtain⟨e,he,hb⟩:=Array.any_eq_true'.1 h;simp only[qG,Bool.or_eq_true,jY]at hb;have h1:=hc t o ho ht e he hb.1;rcases hb.2 with h2|h2
   ·rw[<-h2];exact h1
   exact zR hc f e.on h2 h1
  cases h
theorem q03{listed:Array Bool}{i:Nat}(hi:i∉o3):q4t o3 (listed.setIfInBounds i true)=q4t o3 listed:=by
 unfold q4t
 induction o3 with
 |nil=>rfl
 |cons t o3 ih=>
  simp only[jJ,not_or]at hi;simp only[List.any_cons];rw[ih hi.2,getD_set_ne false hi.1]
theorem zS{listed:Array Bool}{i f:Nat}(hc:xE md ops listed)(ha:∀t∈o3,anc md ops f i t=true)(hu:listed.getD i false=false):q4t o3 listed=false:=by
 cases h:q4t o3 listed with
 |false=>rfl
 |true=>
  obtain⟨t,ht,hl⟩:=List.any_eq_true.1 h;rw[zR hc f t (ha t ht) hl]at hu;cases hu
theorem F1{listed:Array Bool}{i:Nat}(h:listed.getD i true=false):i<listed.size/\listed.getD i false=false:=by
 rcases jO i listed.size with h'|h'
 ·exact⟨h',by simp[h']at h⊢;exact h⟩
 simp[jr h']at h
theorem N4{Q:Act->World->Prop}{i f:Nat}{oi:Oper}{v:Value}(hi:ops[i]? =some oi)(qdH:∀(j:Nat) (o:Oper) cs b,ops[j]? =some o->o.op≠.select cs b)(hi3:i∉o3)(ha:∀t∈o3,anc md ops f i t=true):
  ∀(fuel:Nat) (listed:Array Bool) (a:Act) (w:World),xE md ops listed->
   (∀j oj,ops[j]? =some oj->j≠i->listed.getD j true=false->(∀e∈oj.after,Region.binds md e=true->e.on≠i)->oi.apart ops oj=true)->
   i∈Region.ready md ops listed->Yin P ops C oi v a->
   sG P md ops C o3 Q fuel (listed.setIfInBounds i true) (a.put oi.dst v) w->sG P md ops C o3 Q (fuel+1) listed a w:=by
 intro fuel
 induction fuel with
 |zero=>
  intro listed a w hcl _ hr hy H;have hl:=zS hcl ha (F1 (mem_ready.1 hr).1).2;have h1:=H.1;rw[q03 hi3]at h1;refine⟨h1,fun h=>(by rw[h]at hr;cases hr),fun j hj=>?_⟩;by_cases hji:j=i
  ·subst hji;exact hy.wpOp (h1 hl) hi H
  have:=ready_mono hj hji;rw[H.2.1]at this;cases this
 |succ fuel ih=>
  intro listed a w hcl qbD hr hy H;have hl:=zS hcl ha (F1 (mem_ready.1 hr).1).2;have h1:=H.1;rw[q03 hi3]at h1;refine⟨h1,fun h=>(by rw[h]at hr;cases hr),fun j hj=>?_⟩;by_cases hji:j=i
  ·subst hji;exact hy.wpOp (h1 hl) hi H
  have h1:=H.2.2 j (ready_mono hj hji);obtain⟨qdW,oj,hoj,hall⟩:=mem_ready.1 hj
  have qfj:∀e∈oj.after,Region.binds md e=true->e.on≠i:=fun e he hb heq=>by
   have h1:=hall e he hb;have h0:=(mem_ready.1 hr).1;rw[heq]at h1;rw[(F1 h0).2]at h1;cases h1
  have h2:=q2d hoj (qbD j oj hoj hji qdW qfj) (fun cs b=>qdH i oi cs b hi) (fun cs b=>qdH j oj cs b hoj) hy h1
  have qcc:∀k ok,ops[k]? =some ok->k≠i->(listed.setIfInBounds j true).getD k true=false->
    (∀e∈ok.after,Region.binds md e=true->e.on≠i)->oi.apart ops ok=true:=fun k ok hk hki hun hno=>by
   refine qbD k ok hk hki ?_ hno;by_cases hjk:j=k
   ·subst hjk;exact qdW
   rw[getD_set_ne true hjk]at hun;exact hun
  refine wpOp_mono (fun a' w' h3=>ih (listed.setIfInBounds j true) a' w' (hcl.set hj) qcc (ready_mono hr (Ne.symm hji)) h3.1 ?_) h2;rw[Array.setIfInBounds_comm _ _ hji];exact h3.2
theorem q2m{listed:Array Bool}{i:Nat}(hi:i∈o3)(hs:i<listed.size):q4t o3 (listed.setIfInBounds i true)=true:=
 List.any_eq_true.2 ⟨i,hi,by simp[hs]⟩
theorem zT{Q K:Act->World->Prop}{C':World->Prop}{i n:Nat}{listed:Array Bool}{a:Act}{w:World}(hr:Region.ready md ops listed=[i])(hC:q4t o3 listed=false->C w)
  (hK:∀a' w',C' w'->K a' w'->sG P md ops C o3 Q n (listed.setIfInBounds i true) a' w') (h:wpList P ops (Z9 C' K) [ops.toList.getD i default] a w):sG P md ops C o3 Q (n+1) listed a w:=by
 have him:i∈Region.ready md ops listed:=by rw[hr];simp
 obtain⟨_,o,ho,_⟩:=mem_ready.1 him;have hol:ops.toList.getD i default=o:=by rw[qq,j6,ho];rfl
 refine⟨hC,fun h0=>(by rw[hr]at h0;cases h0),fun j hj=>?_⟩;obtain rfl:j=i:=by rw[hr]at hj;simpa using hj
 rw[hol]at h;unfold wpList at h;unfold wpOp;simp only[ho];split
 ·rename_i hw
  rw[qt hw]at h;rcases h with h'|⟨-,h'⟩
  ·refine .inl (Oper.wp_mono ?_ (oU (fun _ _ _ h=>h) lP h'))
   intro a' w' hh;obtain⟨hC',hk⟩:=(hh:Z9 C' K .normal a' w');exact hK a' w' hC' hk
  exact(lP h').elim
 rename_i hw;rw[qr hw]at h;obtain⟨hC',hk⟩:=(h:Z9 C' K .normal (a.put o.dst undef) w);exact hK _ _ hC' hk
theorem xF{Q:Act->World->Prop}:∀(o:List Nat) (listed:Array Bool) (a:Act) (w:World),(∀t∈o,t∈o3)->q4s md ops o listed=true->(q4t o3 listed=false->C w)->
  aG P ops (fun _=>True) Q (kE ops.toList o) a w->sG P md ops C o3 Q o.length listed a w
 |[],listed,a,w,_,hB,hC,h=>⟨hC,by simpa[q4s]using hB,h⟩
 |i::r,listed,a,w,ho,hB,hC,h=>by
  simp only[q4s,qG,jY]at hB;have him:i∈Region.ready md ops listed:=by rw[hB.1];simp
  have hs:=(F1 (mem_ready.1 him).1).1;refine zT (C':=fun _=>True) hB.1 hC (fun a' w' _ hk=>xF r _ a' w' (fun t ht=>ho t (by simp[ht])) hB.2 (fun hl=>by rw[q2m (ho i (by simp)) hs]at hl;cases hl) hk) ?_;simp only[kE,qF]at h;exact h
theorem zU{Q:Act->World->Prop}:∀(o2:List Nat) (listed:Array Bool) (a:Act) (w:World),q4s md ops (o2++o3) listed=true->C w->
  aG P ops C (aG P ops (fun _=>True) Q (kE ops.toList o3)) (kE ops.toList o2) a w->sG P md ops C o3 Q (o2.length+o3.length) listed a w
 |[],listed,a,w,hB,hC,h=>by
  rw[qK,qE];exact xF o3 listed a w (fun _ h=>h) hB (fun _=>hC) h
 |i::r,listed,a,w,hB,hC,h=>by
  simp only[jj,q4s,qG,jY]at hB;rw[qx,Nat.add_right_comm];refine zT (C':=C) hB.1 (fun _=>hC) (fun a' w' hC' hk=>zU r _ a' w' hB.2 hC' hk) ?_;simp only[kE,qF]at h;exact h
def q4J(md:Region.Mode)(ops:Array Oper)(o1 o3:List Nat):Bool:=o1.all fun i=> !o3.contains i&&o3.all fun t=>anc md ops ops.size i t
theorem vF{Q:Act->World->Prop}(hs:Region.noSelect ops=true)(o2:List Nat){w:World}(hC:C w):∀(o1:List Nat) (listed:Array Bool) (a:Act),q4J md ops o1 o3=true->xE md ops listed->q4D md ops (o2++o3) o1 listed=true->
  wpQuiet P ops C (fun a'=>aG P ops C (aG P ops (fun _=>True) Q (kE ops.toList o3)) (kE ops.toList o2) a' w) (kE ops.toList o1) a->sG P md ops C o3 Q (o1.length+(o2.length+o3.length)) listed a w
 |[],listed,a,_,_,hB,h=>by
  rw[qK,qE];exact zU o2 listed a w (by simpa[q4D]using hB) hC h
 |i::r,listed,a,hh,hcl,hB,h=>by
  simp only[q4D,qG]at hB;obtain⟨⟨⟨hr,hf⟩,hn⟩,hB'⟩:=hB;simp only[q4J,List.all_cons,qG]at hh;have him:i∈Region.ready md ops listed:=by simpa using hr
  obtain⟨_,o,ho,_⟩:=mem_ready.1 him;have hol:ops.toList.getD i default=o:=by rw[qq,j6,ho];rfl
  simp only[kE,qF,hol]at h;have hn':sC o.op=true:=by simpa[ho]using hn
  obtain⟨v,hy,hK⟩:=oW (K:=wpQuiet P ops C (fun a'=>aG P ops C (aG P ops (fun _=>True) Q (kE ops.toList o3)) (kE ops.toList o2) a' w) (kE ops.toList r)) hn' h;rw[qx,Nat.add_right_comm]
  exact N4 ho (Region.noSelect_spec hs) (by simpa using hh.1.1) (fun t ht=>(List.all_eq_true.1 hh.1.2) t ht) _ listed a w hcl (Region.free_spec ho hf) him hy
   (vF hs o2 hC r _ _ (by simpa[q4J]using hh.2) (hcl.set him) hB' hK)
def q6H(md:Region.Mode)(ops:Array Oper)(o1 o2 o3:List Nat):Bool:=
 Region.noSelect ops&&(o1.length+(o2.length+o3.length)==ops.size)&&q4J md ops o1 o3&&q4D md ops (o2++o3) o1 (Array.replicate ops.size false)
theorem V6(m j:Nat):(Array.replicate m false).getD j false=false:=by
 rcases jO j m with h|h<;>simp[h]
theorem cU{id:Nat}{Q:Exit->Act->World->Prop}{a:Act}{w:World}{l:List Oper}(C:World->Prop)(o1 o2 o3:List Nat)(hm:P.follows .mixedOrders=true)(hB:q6H .any l.toArray o1 o2 o3=true)(hC:C w.drew)
  (h:wpQuiet P l.toArray C (fun a'=>aG P l.toArray C (aG P l.toArray (fun _=>True) (fun a'' w''=>Q .normal a'' w'') (kE l o3)) (kE l o2) a' w.drew) (kE l o1) a):(Code.region id l.toArray true).wp P Q a w:=by
 simp only[q6H,qG,jY]at hB;obtain⟨⟨⟨hs,hlen⟩,hh⟩,hB⟩:=hB;refine wp_region_any hm ?_;have h1:=vF (Q:=fun a'' w''=>Q .normal a'' w'') (md:=.any) (w:=w.drew) hs o2 hC o1 (Array.replicate l.toArray.size false) a hh (fun j oj _ hl=>by rw[V6]at hl;cases hl) hB (by simpa using h);rw[hlen]at h1;exact zQ (fun a w hq=>hq) _ _ _ _ h1
theorem aT{id:Nat}{Q:Exit->Act->World->Prop}{a:Act}{w:World}{l:List Oper}(o1 o2 o3:List Nat)(hm:P.follows .mixedOrders=true)(hB:q6H .any l.toArray o1 o2 o3=true)
  (h:wpQuiet P l.toArray (fun w'=>∃x,w'=ext w x) (fun a'=>aG P l.toArray (fun w'=>∃x,w'=ext w x) (aG P l.toArray (fun _=>True) (fun a'' w''=>Q .normal a'' w'') (kE l o3)) (kE l o2) a' w.drew) (kE l o1) a):(Code.region id l.toArray true).wp P Q a w:=
 cU (C:=fun w'=>∃x,w'=ext w x) o1 o2 o3 hm hB (aI (aN w 1)) h
end
end Go.Cm
namespace Go.Cm
open Go.RowKit
section
variable {P : Program} {ops : Array Oper} {md : Region.Mode} {C : World → Prop}
def q9B(md:Region.Mode)(ops:Array Oper)(k:Array Bool->Bool):List Nat->Array Bool->Bool
 |[],listed=>k listed
 |i::r,listed=>Region.ready md ops listed==[i]&&q9B md ops k r (listed.setIfInBounds i true)
def q9C(md:Region.Mode)(ops:Array Oper)(k:Array Bool->Bool):List Nat->Array Bool->Bool
 |[],listed=>k listed
 |i::r,listed=>(Region.ready md ops listed).contains i&&Region.free md ops listed i&&((ops[i]?).map (fun o=>sC o.op)).getD false&&q9C md ops k r (listed.setIfInBounds i true)
def q9D(md:Region.Mode)(ops:Array Oper):List (List Nat×List Nat)->Array Bool->Bool
 |[],listed=>Region.ready md ops listed==[]
 |ph::r,listed=>q9C md ops (q9B md ops (q9D md ops r) ph.2) ph.1 listed
def q6M:List (List Nat×List Nat)->Nat
 |[]=>0
 |ph::r=>ph.1.length+(ph.2.length+q6M r)
def q63(md:Region.Mode)(ops:Array Oper)(l:List (List Nat×List Nat)):Bool:=
 Region.noSelect ops&&(q6M l==ops.size)&&q9D md ops l (Array.replicate ops.size false)
def mX(P:Program)(ops:Array Oper)(C:World->Prop)(Q:Act->World->Prop):List (List Nat×List Nat)->Act->World->Prop
 |[],a,w=>Q a w
 |ph::r,a,w=>wpQuiet P ops C (fun a'=>aG P ops C (mX P ops C Q r) (kE ops.toList ph.2) a' w) (kE ops.toList ph.1) a
theorem rI{Q K:Act->World->Prop}{k:Array Bool->Bool}{n:Nat}(hk:∀listed a w,k listed=true->C w->K a w->lO P md ops C Q n listed a w):
  ∀(o2:List Nat) (listed:Array Bool) (a:Act) (w:World),q9B md ops k o2 listed=true->C w->
  aG P ops C K (kE ops.toList o2) a w->lO P md ops C Q (o2.length+n) listed a w
 |[],listed,a,w,hB,hC,h=>by rw[qK,qE];exact hk listed a w hB hC h
 |i::r,listed,a,w,hB,hC,h=>by
  simp only[q9B,qG,jY]at hB;obtain⟨hr,hB'⟩:=hB;have him:i∈Region.ready md ops listed:=by rw[hr];simp
  obtain⟨_,o,ho,_⟩:=mem_ready.1 him;have hol:ops.toList.getD i default=o:=by rw[qq,j6,ho];rfl
  rw[qx,Nat.add_right_comm];refine⟨hC,fun h0=>(by rw[hr]at h0;cases h0),fun j hj=>?_⟩;obtain rfl:j=i:=by rw[hr]at hj;simpa using hj
  simp only[kE,qF,hol]at h;have h':wpList P ops (Z9 C (aG P ops C K (kE ops.toList r))) [o] a w:=h;unfold wpList at h';unfold wpOp;simp only[ho];split
  ·rename_i hw
   rw[qt hw]at h';rcases h' with h'|⟨-,h'⟩
   ·refine .inl (Oper.wp_mono ?_ (oU (fun _ _ _ h=>h) lP h'))
    intro a' w' hh;obtain⟨hC',hk'⟩:=(hh:Z9 C (aG P ops C K (kE ops.toList r)) .normal a' w');exact rI hk r _ a' w' hB' hC' hk'
   exact(lP h').elim
  rename_i hw;rw[qr hw]at h';obtain⟨hC',hk'⟩:=(h':Z9 C (aG P ops C K (kE ops.toList r)) .normal (a.put o.dst undef) w);exact rI hk r _ _ _ hB' hC' hk'
theorem xO{Q:Act->World->Prop}{K:Act->Prop}{k:Array Bool->Bool}{n:Nat}{w:World}(hs:Region.noSelect ops=true)(hk:∀listed a,k listed=true->K a->lO P md ops C Q n listed a w):
  ∀(o1:List Nat) (listed:Array Bool) (a:Act),q9C md ops k o1 listed=true->
  wpQuiet P ops C K (kE ops.toList o1) a->lO P md ops C Q (o1.length+n) listed a w
 |[],listed,a,hB,h=>by rw[qK,qE];exact hk listed a hB h
 |i::r,listed,a,hB,h=>by
  simp only[q9C,qG]at hB;obtain⟨⟨⟨hr,hf⟩,hn⟩,hB'⟩:=hB;have him:i∈Region.ready md ops listed:=by simpa using hr
  obtain⟨_,o,ho,_⟩:=mem_ready.1 him;have hol:ops.toList.getD i default=o:=by rw[qq,j6,ho];rfl
  simp only[kE,qF,hol]at h;have hn':sC o.op=true:=by simpa[ho]using hn
  obtain⟨v,hy,hK⟩:=oW (K:=wpQuiet P ops C K (kE ops.toList r)) hn' h;rw[qx,Nat.add_right_comm];exact nV ho (Region.noSelect_spec hs) _ listed a w (Region.free_spec ho hf) him hy (xO hs hk r _ _ hB' hK)
theorem xP{Q:Act->World->Prop}(hs:Region.noSelect ops=true):∀(l:List (List Nat×List Nat)) (listed:Array Bool) (a:Act) (w:World),q9D md ops l listed=true->C w->
  mX P ops C Q l a w->lO P md ops C Q (q6M l) listed a w
 |[],listed,a,w,hB,hC,h=>⟨hC,by simpa[q9D]using hB,h⟩
 |ph::r,listed,a,w,hB,hC,h=>
  xO hs (fun listed' a' hB' hK=>rI (K:=mX P ops C Q r) (fun l'' a'' w'' qjx qjw qju=>xP hs r l'' a'' w'' qjx qjw qju) ph.2 listed' a' w hB' hC hK) ph.1 listed a hB h
theorem vQ{id:Nat}{Q:Exit->Act->World->Prop}{a:Act}{w:World}{l:List Oper}(C:World->Prop)(ps:List (List Nat×List Nat))(hm:P.follows .mixedOrders=true)(hB:q63 .any l.toArray ps=true)(hC:C w.drew)
  (h:mX P l.toArray C (fun a'' w''=>C w''->Q .normal a'' w'') ps a w.drew):(Code.region id l.toArray true).wp P Q a w:=by
 simp only[q63,qG,jY]at hB;obtain⟨⟨hs,hlen⟩,hB⟩:=hB;refine wp_region_any hm ?_;have h1:=xP (Q:=fun a'' w''=>C w''->Q .normal a'' w'') (md:=.any) hs ps (Array.replicate l.toArray.size false) a w.drew hB hC h;rw[hlen]at h1;exact oV (fun a w hC hq=>hq hC) _ _ _ _ h1
end
end Go.Cm
namespace Go.Cm
open Go.RowKit
inductive Scr where
 |done
 |q (i:Nat) (s:Scr)
 |br (i:Nat) (s:Scr) (t:Scr)
 |no
def Scr.heads:Scr->List Nat
 |.br i _ t=>i::t.heads
 |_=>[]
def Scr.run(md:Region.Mode)(ops:Array Oper):Scr->Bool->Nat->Array Bool->Bool
 |.done,top,n,listed=>top&&n==0&&Region.ready md ops listed==[]
 |.q i s,top,n,listed=>top&&decide (0<n)&&(Region.ready md ops listed).contains i&&Region.free md ops listed i&&((ops[i]?).map (fun o=>sC o.op)).getD false&&s.run md ops true (n-1) (listed.setIfInBounds i true)
 |.br i s t,top,n,listed=>(!top||Region.ready md ops listed==i::t.heads)&&decide (0<n)&&((ops[i]?).isSome)&&s.run md ops true (n-1) (listed.setIfInBounds i true)&&t.run md ops false n listed
 |.no,top,_,_=> !top
def Scr.qs:List Nat->Scr->Scr
 |[],s=>s
 |i::r,s=>.q i (Scr.qs r s)
section
variable {P : Program} {ops : Array Oper} {md : Region.Mode} {C : World → Prop}
def bF(P:Program)(ops:Array Oper)(C:World->Prop)(Q:Act->World->Prop):Scr->Act->World->Prop
 |.done,a,w=>Q a w
 |.q i s,a,w=>wpQuiet P ops C (fun a'=>bF P ops C Q s a' w) (kE ops.toList [i]) a
 |.br i s t,a,w=>aG P ops C (bF P ops C Q s) (kE ops.toList [i]) a w/\bF P ops C Q t a w
 |.no,_,_=>True
theorem q07{i:Nat}{o:Oper}(ho:ops[i]? =some o):kE ops.toList [i]=[o]:=by
 have hol:ops.toList.getD i default=o:=by rw[qq,j6,ho];rfl
 show [ops.toList.getD i default]=[o];rw[hol]
theorem V8{K:Act->World->Prop}{K':Act->World->Prop}{i:Nat}{o:Oper}{a:Act}{w:World}(ho:ops[i]? =some o)(h:aG P ops C K [o] a w)(hk:∀a w,C w->K a w->K' a w):wpOp P ops noQ i K' a w:=by
 have h':wpList P ops (Z9 C (aG P ops C K [])) [o] a w:=h;unfold wpList at h';unfold wpOp;simp only[ho];split
 ·rename_i hw
  rw[qt hw]at h';rcases h' with h'|⟨-,h'⟩
  ·refine .inl (Oper.wp_mono ?_ (oU (fun _ _ _ h=>h) lP h'))
   intro a' w' hh;obtain⟨hC',hk'⟩:=(hh:Z9 C (aG P ops C K []) .normal a' w');exact hk a' w' hC' hk'
  exact(lP h').elim
 rename_i hw;rw[qr hw]at h';obtain⟨hC',hk'⟩:=(h':Z9 C (aG P ops C K []) .normal (a.put o.dst undef) w);exact hk _ _ hC' hk'
theorem q1o{Q:Act->World->Prop}(hs:Region.noSelect ops=true):∀(s:Scr) (n:Nat) (listed:Array Bool) (a:Act) (w:World),C w->bF P ops C Q s a w->
  (s.run md ops true n listed=true->lO P md ops C Q n listed a w)/\
  (s.run md ops false n listed=true->∀j∈s.heads,∃m,n=m+1/\wpOp P ops noQ j (lO P md ops C Q m (listed.setIfInBounds j true)) a w):=by
 intro s
 induction s with
 |done=>
  intro n listed a w hC h;refine⟨fun hB=>?_,fun _ j hj=>by cases hj⟩;simp only[Scr.run,j3,qG,jY]at hB;obtain⟨rfl,hr⟩:=hB;exact⟨hC,hr,h⟩
 |no=>
  intro n listed a w hC h;exact⟨fun hB=>by simp[Scr.run]at hB,fun _ j hj=>by cases hj⟩
 |q i s ih=>
  intro n listed a w hC h;refine⟨fun hB=>?_,fun _ j hj=>by cases hj⟩;simp only[Scr.run,j3,qG,jk]at hB;obtain⟨⟨⟨⟨h0,hr⟩,hf⟩,hn⟩,hB'⟩:=hB;obtain⟨m,rfl⟩:∃m,n=m+1:=⟨n-1,by omega⟩;have him:i∈Region.ready md ops listed:=by simpa using hr
  obtain⟨_,o,ho,_⟩:=mem_ready.1 him;have hn':sC o.op=true:=by simpa[ho]using hn
  have h':wpQuiet P ops C (fun a'=>bF P ops C Q s a' w) [o] a:=by
   have:=h;unfold bF at this;rwa [q07 ho]at this
  obtain⟨v,hy,hK⟩:=oW (K:=wpQuiet P ops C (fun a'=>bF P ops C Q s a' w) []) hn' h';exact nV ho (Region.noSelect_spec hs) _ listed a w (Region.free_spec ho hf) him hy ((ih m _ _ w hC hK).1 hB')
 |br i s t ihs iht=>
  intro n listed a w hC h;obtain⟨h1,h2⟩:=h
  have key:s.run md ops true (n-1) (listed.setIfInBounds i true)=true->(ops[i]?).isSome=true->0<n->t.run md ops false n listed=true->∀j∈(Scr.br i s t).heads,∃m,n=m+1/\wpOp P ops noQ j (lO P md ops C Q m (listed.setIfInBounds j true)) a w:=by
   intro hB1 hsome h0 hB2 j hj;obtain⟨m,rfl⟩:∃m,n=m+1:=⟨n-1,by omega⟩;rcases List.mem_cons.1 hj with rfl|hj
   ·obtain⟨o,ho⟩:=Option.isSome_iff_exists.1 hsome
    rw[q07 ho]at h1;exact⟨m,rfl,V8 ho h1 fun a' w' hC' hk=>(ihs m _ a' w' hC' hk).1 hB1⟩
   exact(iht (m+1) listed a w hC h2).2 hB2 j hj
  constructor
  ·intro hB
   simp only[Scr.run,Bool.not_true,Bool.false_or,qG,jY,jk]at hB;obtain⟨⟨⟨⟨hr,h0⟩,hsome⟩,hB1⟩,hB2⟩:=hB;obtain⟨m,rfl⟩:∃m,n=m+1:=⟨n-1,by omega⟩;refine⟨hC,fun h0=>(by rw[hr]at h0;cases h0),fun j hj=>?_⟩;rw[hr]at hj;obtain⟨m',hm,hw⟩:=key hB1 hsome h0 hB2 j hj;obtain rfl:m=m':=by omega
   exact hw
  intro hB;simp only[Scr.run,Bool.not_false,Bool.true_or,j3,qG,jk]at hB;obtain⟨⟨⟨h0,hsome⟩,hB1⟩,hB2⟩:=hB;exact key hB1 hsome h0 hB2
def qav(md:Region.Mode)(ops:Array Oper)(s:Scr):Bool:=Region.noSelect ops&&s.run md ops true ops.size (Array.replicate ops.size false)
theorem iC{id:Nat}{Q:Exit->Act->World->Prop}{a:Act}{w:World}{l:List Oper}(C:World->Prop)(s:Scr)(hm:P.follows .mixedOrders=true)(hB:qav .any l.toArray s=true)(hC:C w.drew)
  (h:bF P l.toArray C (fun a'' w''=>C w''->Q .normal a'' w'') s a w.drew):(Code.region id l.toArray true).wp P Q a w:=by
 simp only[qav,qG]at hB;obtain⟨hs,hB⟩:=hB;refine wp_region_any hm ?_;have h1:=(q1o (Q:=fun a'' w''=>C w''->Q .normal a'' w'') (md:=.any) hs s l.toArray.size (Array.replicate l.toArray.size false) a w.drew hC h).1 hB;exact oV (fun a w hC hq=>hq hC) _ _ _ _ h1
end
end Go.Cm
namespace Go.Cm
open Go.RowKit Go.Proofs
def cK(l:List UInt8):List Value:=l.map fun b=>.int .u8 (b.toNat:Int)
theorem mZ(a b:List UInt8):cK (a++b)=cK a++cK b:=by simp[cK]
theorem dA(a:List UInt8):(cK a).length=a.length:=by simp[cK]
theorem q1w(l:List UInt8):∀u∈cK l,u.oneCell'=true:=by
 intro u hu;simp only[cK,jy]at hu;obtain⟨b,-,rfl⟩:=hu;rfl
theorem fI{P:Program}(w:World)(src dst e:TypeId)(hs:P.underlying src=some (.slice e))(he:P.underlying e=some (.int .u8))(hd:P.underlying dst=some .string)
  (v:Value) (l:List UInt8) (h:Sl w v (cK l)):(convert src dst v).run P w=.ok (.string ⟨l.toArray⟩) w:=by
 obtain⟨oa,cap,b,off,rfl,hdr,hc⟩:=h;rw[dA]at hdr hc⊢;rw[run_convert_bytes_string w src dst e oa l.length cap hs he hd]
 have qd2:∀(l:List UInt8) (s:ByteArray),(l.map fun b=>(b.toNat:Int)).foldl (fun r n=>r.push (UInt8.ofNat n.toNat)) s=⟨s.data++l.toArray⟩:=by
  intro l
  induction l with
  |nil=>intro s;simp
  |cons b l ih=>intro s;simp only[qF,qH,ih];simp[ByteArray.push]
 have hb:cK l=(l.map fun b=>(b.toNat:Int)).map (Value.int .u8):=by simp[cK]
 cases oa with
 |none=>
  have h0:l.length=0:=by
   rcases jD l.length with h|h
   ·exact h
   have:=hdr.hat h;cases this
  obtain rfl:l=[]:=List.length_eq_zero_iff.1 h0;unfold Conv.bytesToString;simp
  rfl
 |some ad=>
  have hl:(loadCells ad l.length).run P w=.ok ((l.map fun b=>(b.toNat:Int)).map (Value.int .u8)).toArray w:=by
   rcases jD l.length with h|h
   ·obtain rfl:l=[]:=List.length_eq_zero_iff.1 h
    simp[loadCells,loadCellsFrom]
   have:=hdr.hat h;obtain rfl:ad=⟨b,off,none⟩:=qo this;rw[<-hb]
   have h2:=run_loadCells_list (P:=P) w ⟨b,off,none⟩ (cK l) (fun j v hv=>by
    have hj:j<(cK l).length:=(List.getElem?_eq_some_iff.1 hv).1;rw[dA]at hj;rw[kF,hc j hj];simp[List.getD,hv])
   rwa [dA]at h2
  rw[run_bytesToString w ad l.length cap _ hl,qd2];simp
end Go.Cm
namespace Go.Cm
open Go.RowKit Go.Proofs Go.Maps
def uH{α:Type} [DecidableEq α](lit:α->Lit)(D:DataW Unit)(ks:List α):Prop:=
 Tidy D/\Maps.size D=ks.length/\(∀k,Maps.has D (lit k)=decide (k∈ks))/\∀k∈ks,D.atKey (lit k) (.lit (.int .i64 0))=.lit (.int .i64 (idx ks k:Nat))
structure q53{α:Type}(lit:α->Lit):Prop where
 inj:∀a b,lit a=lit b->a=b
 key:∀a,WideAt.IsKeyLit (lit a)
theorem P0:q53 (fun s:List UInt8=>Lit.string s):=⟨fun a b h=>by injection h,fun _=>trivial⟩
theorem q8A:q53 (fun n:Int=>Lit.int .i64 n):=⟨fun a b h=>by injection h,fun _=>trivial⟩
theorem q8b(n:Nat)(h:n<=4294967296):(Lit.int .i64 (n:Int)).wf=true:=by
 have h1:IntKind.i64.min= -9223372036854775808:=rfl;have h2:IntKind.i64.max=9223372036854775807:=rfl;simp[Lit.wf,h1,h2];omega
section
variable {α : Type} [DecidableEq α] {lit : α → Lit} {D : DataW Unit} {ks : List α}
theorem uH.nil(lit:α->Lit):uH lit (.map []) ([]:List α):=⟨tidy_empty,rfl,fun k=>by simp[has_eq],fun k hk=>by cases hk⟩
theorem uH.snoc(h:uH lit D ks)(hl:q53 lit){k:α}(hk:k∉ks):uH lit (D.put (lit k) (.lit (.int .i64 (ks.length:Nat)))) (ks++[k]):=by
 obtain⟨h1,h2,h3,h4⟩:=h;refine⟨h1.put (hl.key k) _,?_,fun j=>?_,fun j hj=>?_⟩
 ·rw[size_put h1,h3 k];simp[hk,h2]
 ·by_cases hjk:j=k
  ·subst hjk;rw[has_put_same h1.isMap (hl.key j)];simp
  rw[has_put_other (fun e=>hjk (hl.inj _ _ e)),h3 j];simp[hjk]
 by_cases hjk:j=k
 ·subst hjk;rw[atKey_put_same h1.isMap (hl.key j),dN hk]
 have hj':j∈ks:=by
  rcases List.mem_append.1 hj with h|h
  ·exact h
  simp at h;exact absurd h hjk
 rw[atKey_put_other (fun e=>hjk (hl.inj _ _ e)),h4 j hj',cV hj']
theorem uH.at_eq(h:uH lit D ks){k:α}(hk:k∈ks){c:Int}(hc:D.atKey (lit k) (.lit (.int .i64 0))=.lit (.int .i64 c)):c=(idx ks k:Nat):=by
 have h1:=h.2.2.2 k hk;rw[hc]at h1;injection h1 with h2;injection h2
end
def eG{α:Type} [DecidableEq α](P:Program)(K E:TypeId)(lit:α->Lit)(w:World)(b:Nat)(ks:List α):Prop:=
 ∃D:DataW Unit,w.ownsMap P K (plainElem P E) b ks.length D/\uH lit D ks
section
variable {α : Type} [DecidableEq α] {P : Program} {K E : TypeId} {lit : α → Lit} {w w' : World} {b : Nat} {ks : List α}
theorem eG.made(w:World)(lit:α->Lit):eG P K E lit (w.alloc (.map #[] 0)) w.heap.size ([]:List α):=⟨_,World.ownsMap_made _ _ _ _,uH.nil lit⟩
theorem eG.keep(h:eG P K E lit w b ks){row:Option Nat}(hg:w.grownBy w' row)(hne:some b≠row):eG P K E lit w' b ks:=by
 obtain⟨D,h1,h2⟩:=h;exact⟨D,h1.kept hg hne,h2⟩
theorem eG.up(h:eG P K E lit w b ks)(hb:Below w.heap.size w w'):eG P K E lit w' b ks:=h.keep (row:=none) (aE hb none) (by simp)
theorem eG.lt(h:eG P K E lit w b ks):b<w.heap.size:=by obtain⟨D,h1,-⟩:=h;exact h1.lt
end
end Go.Cm
namespace Go.Cm
open Go.RowKit Go.Proofs Go.WideShapes Go.ChangeShapes Go.Deep
section
variable {H : Type} {enc : TypeId × Value → H} {P : Program}
theorem G9{f:Func}{s:ChangeSpec}{apart fresh qd5 again:Bool}{W W':World}{args:Array Value}{v:Value}{ds gs:List (DataW H)}{before pa pv:List MemPlace}
  (hW:DataW.Whole enc P f.params.toList s.vars apart W args.toList ds gs before)
  (hres:∀(b:Nat) (sp:Nat->Bool) (hd:Bool),DataW.TrodAll enc P W' b sp hd f.resultTypes.toList (v.resultList f.resultTypes.size) (s.fn H (ds++gs)).results [])
  (qe8:∀sp:Nat->Bool,(∀p∈before,sp p.block=true)->DataW.TrodAll enc P W' 0 sp true f.params.toList args.toList (s.fn H (ds++gs)).args pa)
  (qdB:∀sp:Nat->Bool,(∀p∈before,sp p.block=true)->DataW.TrodVars enc P W' sp s.vars (s.fn H (ds++gs)).vars pv)
  (hps:before=pa++pv) (hb:Below W.heap.size W W')
  (hok:∀(j:Nat) (t:TypeId) (r:Value),f.resultTypes[j]? =some t->(v.resultList f.resultTypes.size)[j]? =some r->Value.okWide P W' .any 0 t r):
  s.post enc P f apart fresh qd5 again W args v W':=by
 have hlt:∀p∈before,p.block<W.heap.size:=fun p hp=>hW.lt p hp;have hold:∀p∈before,(fun b=>decide (b<W.heap.size)) p.block=true:=fun p hp=>by simpa using hlt p hp
 refine⟨ds,gs,before,[],pa,pv,hW,hres _ _ _,qe8 _ hold,qdB _ hold,World.keptBut_mono (fun p hp=>⟨hp,?_⟩) (hb.frame (· ∈before)),fun _=>?_⟩
 ·rw[hps,List.mem_append]at hp
  exact Or.inr hp
 obtain⟨_,_,_,_,_,hz,hn⟩:=hW;refine⟨hok,_,_,([]++pa)++pv,⟨[]++pa,pv,trodAll_append (qe8 _ (fun _ _=>rfl)) (hres _ _ _),qdB _ (fun _ _=>rfl),rfl,?_,?_⟩,?_⟩
 ·intro b off hp
  have hin:MemPlace.cell b off∈before:=by rw[hps];simpa using hp
  rw[hb.frozen (hlt _ hin)];exact hz b off hin
 ·intro ha
  have:=hn ha;rw[hps]at this;simpa using this
 intro p hp _;rw[hps];simpa using hp
end
section
variable {H : Type} {enc : TypeId × Value → H} {P : Program} {w : World} {base : Nat} {held : Bool}
theorem I0{t e:TypeId}{elems spare:List (DataW H)}(hu:P.underlying t=some (.slice e)):(DataW.slice elems spare).weights P t=(elems.length+spare.length)*P.bytesOf e::(DataW.weightsAll P e elems++DataW.weightsAll P e spare):=by
 simp[DataW.weights,hu]
theorem r6{e:TypeId}{d:DataW H}:∀{l:List (DataW H)},d∈l->∀n∈d.weights P e,n∈DataW.weightsAll P e l
 |a::l,h,n,hn=>by
  simp only[DataW.weightsAll,List.mem_append];rcases List.mem_cons.1 h with rfl|h
  ·exact .inl hn
  exact .inr (r6 h n hn)
theorem q0p(b off j:Nat):(⟨b,off,none⟩:Addr).add j=⟨b,off+j,none⟩:=by unfold Addr.add;split<;>simp_all
theorem I1:reachBytes=140737488351232:=rfl
end
end Go.Cm
namespace Go.Cm
open Go.RowKit Go.Proofs
structure yU(w:World)(A:Array Value)(d:Dfa):Prop where
 hsize:A.size=258
 hlen:d.cls.length=256
 hcls:∀i,i<256->A[i]? =some (.int .i64 (d.cls.getD i 0))
 hnext:∃v,A[256]? =some v/\mG w v d.next
 hrules:∃v,A[257]? =some v/\eE w v d.rules
def pS(w:World)(v:Value)(d:Dfa):Prop:=∃A,v=.agg A/\yU w A d
theorem yU.up{w w':World}{A:Array Value}{d:Dfa}(h:yU w A d)(hb:Below w.heap.size w w'):yU w' A d:=
 ⟨h.hsize,h.hlen,h.hcls,h.hnext.imp fun _ h=>⟨h.1,h.2.up hb⟩,h.hrules.imp fun _ h=>⟨h.1,h.2.up hb⟩⟩
theorem pS.up{w w':World}{v:Value}{d:Dfa}(h:pS w v d)(hb:Below w.heap.size w w'):pS w' v d:=by
 obtain⟨A,rfl,h⟩:=h;exact⟨A,rfl,h.up hb⟩
theorem dQ{ops:Array Oper}{rest:List Oper}{o:Oper}{a:Act}{w:World}{Q:Exit->Act->World->Prop}(hgd:o.guard=none)(x:Operand)(ho:o.op=.load 41 x)
  (g:Nat) (hx:a.eval x=.pointer (some ⟨g,0,none⟩)) (A:Array Value) (hs:A.size=258) (hg:w.heap[g]? =some (.cells A 41 (0,0)))
  (h:wpList prog ops Q rest (a.put o.dst (.agg A)) w):wpList prog ops Q (o::rest) a w:=
 fS hgd 41 x ho g 0 258 hx 41 A A (0,0) _ hg underlying41 rfl (by kernel_rfl) (by rw[hs];decide) (by rw[<-hs];simp) h
theorem q0t{ops:Array Oper}{rest:List Oper}{o:Oper}{a:Act}{w:World}{Q:Exit->Act->World->Prop}(hgd:o.guard=none)(x:Operand)(ho:o.op=.load 37 x)
  (g:Nat) (hx:a.eval x=.pointer (some ⟨g,0,none⟩)) (A B:Array Value) (hs:A.size=258) (hB:A.extract 0 256=B) (hg:w.heap[g]? =some (.cells A 41 (0,0)))
  (h:wpList prog ops Q rest (a.put o.dst (.agg B)) w):wpList prog ops Q (o::rest) a w:=
 fS hgd 37 x ho g 0 256 hx 41 A B (0,0) _ hg underlying37 rfl (by kernel_rfl) (by rw[hs];decide) (by simpa using hB) h
theorem sT{B:Array Value}{i:Nat}{y:Int}(hi:i<256)(h:B[i]? =some (.int .i64 y))(W:World):(Instr.index 37 (.agg B) (.int .i64 (i:Int))).run prog W=.ok (.int .i64 y) W:=by
 have h1:(sizeOf 3).run prog W=.ok 1 W:=by kernel_rfl
 have h2:(isAgg 3).run prog W=.ok false W:=by kernel_rfl
 have h3:(0:Int)<=i/\(i:Int)<256:=by omega
 simp[Instr.index,asIntOf,run_underlying underlying37,h3,part,h1,h2,Result.andThen,h,show¬256<=i from by omega]
theorem dT{a b:Bool}(h:a=b):Ending.returned (.bool a)=.returned (.bool b):=by rw[h]
theorem rM{a b:Int}(h:a=b):Ending.returned (.int .i64 a)=.returned (.int .i64 b):=by rw[h]
theorem q71(v:Value)(d:Dfa)(w:World)(h:pS w v d):Calls prog 216 #[v] w fun e w'=>e=.returned (.int .i64 (gO d.cls))/\∃x,w'=ext w x:=by
 obtain⟨A,rfl,hs,hl,hc,-,-⟩:=h;obtain⟨B,hB⟩:∃B,A.extract 0 256=B:=⟨_,rfl⟩
 have hBc:∀i,i<256->B[i]? =some (.int .i64 (d.cls.getD i 0)):=fun i hi=>by
  rw[<-hB,Array.getElem?_extract,qt (by omega)];simpa using hc i hi
 have HS:=qa hs;clear hs hc;have HB:=qa hB;clear hB;have HG:=qa (heap_alloc_new w (.cells A 41));have HC:=qa hBc;clear hBc;have HL:=qa hl;clear hl;go_enter func216,ntmps216
 go_wp2_with(refine q0t rfl _ rfl w.heap.size rfl A B HS.o HB.o HG.o ?_)
 go_loop [3,8] (fun n i=>∃k m:Nat,k<=256/\m<=k/\i=.int .i64 k/\n=.int .i64 m/\bE 0 d.cls=bE m (d.cls.drop k)) (fun _ i=>256-(intOf i).toNat)
 case atStart=>exact⟨0,0,qd _,qb _,rfl,rfl,rfl⟩
 case round=>
  obtain⟨k,m,hk,hmk,rfl,rfl,heq⟩:=hrel;have HE:=qa heq;clear heq;by_cases hlt:k<256
  ·have HD:=qa (nH m d.cls k (by rw[HL.o];exact hlt))
   have hix:=fun W=>sT hlt (HC.o k hlt) W;generalize d.cls.getD k 0=y at*;by_cases h1:y<0
   ·go_wp2
    go_ret;have h2:=HD.o;rw[qt (Or.inl h1)]at h2;exact⟨rM (by simp[gO,HE.o,h2]),(aI aJ)⟩
   by_cases h2:(m:Int)<y
   ·go_wp2
    go_ret;have h3:=HD.o;rw[qt (Or.inr h2)]at h3;exact⟨rM (by simp[gO,HE.o,h3]),(aI aJ)⟩
   by_cases h3:y=m
   ·have h4:(y==(m:Int))=true:=by simpa using h3
    have H3:=qa h3;clear h3;go_wp2
    go_round
    case rel=>
     refine⟨k+1,m+1,by omega,by omega,by go_num,by go_num,?_⟩;have h5:=HD.o;rw[qr (by omega),qt H3.o]at h5;rw[HE.o,h5]
    case measure=>simp[intOf];omega
   have h4:(y==(m:Int))=false:=by simpa using h3
   go_wp2
   go_round
   case rel=>
    refine⟨k+1,m,by omega,by omega,by go_num,rfl,?_⟩;have h5:=HD.o;rw[qr (by omega),qr h3]at h5;rw[HE.o,h5]
   case measure=>simp[intOf];omega
  go_wp2;go_ret;have h5:=HE.o;rw[jm (by have:=HL.o;omega)]at h5;exact⟨rM (by simp[gO,h5,bE]),(aI aJ)⟩
theorem q34(v:Value)(d:Dfa)(w:World)(h:pS w v d):Calls prog 15 #[v] w fun e w'=>e=.returned (.bool (zE d))/\∃x,w'=ext w x:=by
 obtain⟨A,rfl,hs,hl,hc,⟨vn,hn,hrow⟩,⟨vr,hr,hru⟩⟩:=h;obtain⟨oa,cap,b,off,rfl,hd,hro⟩:=hrow.open;obtain⟨oa',cap',b',off',rfl,hd',hrc⟩:=hru.open;have hix:=aU (P:=prog) 38 39 underlying38 (by kernel_rfl) hd;have qgX:=aU (P:=prog) 39 3 underlying39 (by kernel_rfl) hd';have hm:=hd.len;have hm':=hd'.len;have HS:=qa hs;clear hs;have HLc:=qa hl;clear hl;have HCL:=qa hc;clear hc;have HR:=qa hro;clear hro;have HRC:=qa hrc;clear hrc;by_cases hok:(1<=d.next.length/\d.next.length<=1000)/\d.rules.length=d.next.length
 ·obtain⟨⟨h1,h2⟩,h3⟩:=hok
  have h5:((d.rules.length:Int) != (d.next.length:Int))=false:=by simp[h3]
  have H3:=qa h3;clear h3;go_enter func15,ntmps15;go_wp2
  go_loop [4,5] (fun n i=>∃k m:Nat,k<=256/\m<=k/\i=.int .i64 k/\n=.int .i64 m/\bE 0 d.cls=bE m (d.cls.drop k)) (fun _ i=>256-(intOf i).toNat)
  case atStart=>exact⟨0,0,qd _,qb _,rfl,rfl,rfl⟩
  case round=>
   obtain⟨k,n,hk,hmk,rfl,rfl,heq⟩:=hrel;have HE:=qa heq;clear heq;by_cases hlt:k<256
   ·have HD:=qa (nH n d.cls k (by rw[HLc.o];exact hlt))
    have hAk:=HCL.o k hlt;generalize d.cls.getD k 0=y at*;by_cases h1:y<0
    ·have HF:Hid (¬bZ d):=qa (fun hv=>by
      obtain⟨_,_,_,q,hq,-⟩:=hv;rw[HE.o,HD.o,qt (Or.inl h1)]at hq;cases hq)
     exact ZmA3
    by_cases h2:(n:Int)<y
    ·have HF:Hid (¬bZ d):=qa (fun hv=>by
      obtain⟨_,_,_,q,hq,-⟩:=hv;rw[HE.o,HD.o,qt (Or.inr h2)]at hq;cases hq)
     exact ZmA3
    by_cases h3:y=n
    ·have h4:(y==(n:Int))=true:=by simpa using h3
     have H3:=qa h3;clear h3;go_wp2
     go_round
     case rel=>
      refine⟨k+1,n+1,by omega,by omega,by go_num,by go_num,?_⟩;have h5:=HD.o;rw[qr (by omega),qt H3.o]at h5;rw[HE.o,h5]
     case measure=>simp[intOf];omega
    have h4:(y==(n:Int))=false:=by simpa using h3
    go_wp2
    go_round
    case rel=>
     refine⟨k+1,n,by omega,by omega,by go_num,rfl,?_⟩;have h5:=HD.o;rw[qr (by omega),qr h3]at h5;rw[HE.o,h5]
    case measure=>simp[intOf];omega
   have HN:Hid (bE 0 d.cls=some n):=qa (by
    have h5:=HE.o;rw[jm (by have:=HLc.o;omega)]at h5;rw[h5];rfl)
   clear HE;go_wp2
   go_loop [6] (fun i=>∃k:Nat,k<=d.next.length/\i=.int .i64 k/\∀j,j<k->D4 d.next.length n (d.rules.getD j 0) (d.next.getD j [])) (fun i=>d.next.length-(intOf i).toNat)
   case atStart=>exact⟨0,qd _,rfl,fun j hj=>absurd hj (qz j)⟩
   case round=>
    clear hk hmk hlt;obtain⟨k,hk,rfl,hall⟩:=hrel;have HA:=qa hall;clear hall;by_cases hlt:k<d.next.length
    ·obtain⟨oi,ci,bi,fi,hck,hdk,hcj,-⟩:=HR.o k hlt
     have hrk:=HRC.o k (by rw[H3.o];exact hlt);have qdT:k<d.rules.length:=by rw[H3.o];exact hlt
     have hb:=hd.hblk (by omega);have hb':=hd'.hblk (by omega);have hlk:=hdk.hsml;have qbJ:=aU (P:=prog) 39 3 underlying39 (by kernel_rfl) hdk;have hblk:=hdk.hblk;have HD:=qa hdk;clear hdk;have HCJ:=qa hcj;clear hcj
     have HW:Hid (D4 d.next.length n (d.rules.getD k 0) (d.next.getD k [])->∀q,q<k+1->D4 d.next.length n (d.rules.getD q 0) (d.next.getD q [])):=qa (fun h q hq=>by
      rcases Nat.lt_succ_iff_lt_or_eq.1 hq with h1|rfl
      ·exact HA.o q h1
      exact h)
     have HV:Hid (bZ d->D4 d.next.length n (d.rules.getD k 0) (d.next.getD k [])):=qa (fun hv=>by
      obtain⟨_,_,_,q,hq,hall⟩:=hv;have:q=n:=by have:=HN.o;rw[this]at hq;exact(qo hq).symm
      subst this;exact hall k hlt)
     generalize d.rules.getD k 0=r at*;generalize d.next.getD k []=row at*;by_cases qdI: -1<=r/\r<32/\row.length=n
     ·obtain⟨g1,g2,g3⟩:=qdI
      have g4:((row.length:Int) != (n:Int))=false:=by simp[g3]
      have g5:r<=31:=by omega
      have g6:n<=140737488351232:=by omega
      have G3:=qa g3;clear g3;go_wp2
      go_loop [7] (fun i=>∃j:Nat,j<=n/\i=.int .i64 j/\∀q,q<j->0<=row.getD q 0/\row.getD q 0<d.next.length) (fun i=>n-(intOf i).toNat)
      case atStart=>exact⟨0,qd _,rfl,fun j hj=>absurd hj (qz j)⟩
      case round=>
       obtain⟨j,hj,rfl,qbG⟩:=hrel;have HJ:=qa qbG;clear qbG;by_cases qbj:j<n
       ·have qdS:j<row.length:=by rw[G3.o];exact qbj
        have hcell:=HCJ.o j qdS;have hbb:=hblk (by omega);have HX:Hid (bZ d->0<=row.getD j 0/\row.getD j 0<d.next.length):=qa (fun hv=>(HV.o hv).2.2.2 j qdS)
        exact ZmA0
       go_wp2
       go_round
       case rel=>
        refine⟨k+1,by omega,by go_num,HW.o ⟨g1,g2,G3.o,?_⟩⟩;have hjj:j=row.length:=by have:=G3.o;omega
        rw[<-hjj];exact HJ.o
       case measure=>simp[intOf];omega
     have HF:Hid (¬bZ d):=qa (fun hv=>qdI ⟨(HV.o hv).1,(HV.o hv).2.1,(HV.o hv).2.2.1⟩);by_cases g1: -1<=r
     ·by_cases g2:r<32
      ·have g4:((row.length:Int) != (n:Int))=true:=by simp;omega
       have g5:r<=31:=by omega
       exact ZmA3
      have g4:(31:Int)<r:=by omega
      exact ZmA3
     have g4:r< -1:=by omega
     exact ZmA3
    exact ZmA7
 have HF:Hid (¬bZ d):=qa (fun hv=>hok ⟨⟨hv.1,hv.2.1⟩,hv.2.2.1⟩);by_cases h1:1<=d.next.length
 ·by_cases h2:d.next.length<=1000
  ·have h5:((d.rules.length:Int) != (d.next.length:Int))=true:=by simp;omega
   exact ZmA6
  have h5:(1000:Int)<d.next.length:=by omega
  exact ZmA6
 have h5:(d.next.length:Int)<1:=by omega
 exact ZmA6
theorem xZ{d:Dfa}(h:bZ d){i:Nat}(hi:i<d.next.length):(∀j,j<(d.next.getD i []).length->0<=(d.next.getD i []).getD j 0/\(d.next.getD i []).getD j 0<d.next.length)/\(d.next.getD i []).length<=256\/d.cls.length≠256:=by
 obtain⟨h1,h2,h3,k,hk,hr⟩:=h;obtain⟨-,-,hl,hj⟩:=hr i hi;by_cases hc:d.cls.length=256
 ·refine .inl ⟨hj,?_⟩
  have:=gP d.cls 0 k hk;omega
 exact .inr hc
theorem y6(d:Dfa)(i j:Nat)(hj:j<(d.next.getD i []).length):(aS d i).getD j 0=((d.next.getD i []).getD j 0).toNat:=by
 simp only[aS,qq,qQ]at hj⊢;rw[qv hj];rfl
theorem n4(d:Dfa)(i:Nat):(aS d i).length=(d.next.getD i []).length:=by simp[aS]
def q72(l:List Int)(w:World)(e:Ending)(w':World):Prop:=∃r,e=.returned r/\eE w' r l/\Below w.heap.size w w'
open Classical in
noncomputable def P2(d:Dfa):List Int:=if bZ d then nl (dW d)else []
theorem A7{d:Dfa}(h:bZ d):P2 d=nl (dW d):=by unfold P2;rw[qt h]
theorem q35{d:Dfa}(h:¬bZ d):P2 d=[]:=by unfold P2;rw[qr h]
theorem P3(l:List Nat)(k:Nat)(h:k<l.length):(ints (nl l)).getD k undef=.int .i64 ((l.getD k 0:Nat):Int):=by
 rw[eS _ _ (by simpa using h),tL]
theorem iN(a b:List Int):ints (a++b)=ints a++ints b:=by simp[ints]
theorem iD(l:List Int):∀u∈ints l,u.oneCell'=true:=by
 intro u hu;simp only[ints,jy]at hu;obtain⟨b,-,rfl⟩:=hu;rfl
theorem y7(v:Value)(d:Dfa)(w:World)(h:pS w v d):Calls prog 212 #[v] w fun e w'=>e=.returned (.bool (zE d))/\∃x,w'=ext w x:=by
 have hL:=fun w' (hb:Below w.heap.size w w')=>q71 v d w' (h.up hb);obtain⟨A,rfl,hs,hl,hc,⟨vn,hn,hrow⟩,⟨vr,hr,hru⟩⟩:=h;obtain⟨oa,cap,b,off,rfl,hd,hro⟩:=hrow.open;obtain⟨oa',cap',b',off',rfl,hd',hrc⟩:=hru.open;have hix:=aU (P:=prog) 38 39 underlying38 (by kernel_rfl) hd;have qgX:=aU (P:=prog) 39 3 underlying39 (by kernel_rfl) hd';have hm:=hd.len;have hm':=hd'.len;have HL:=qa hL;clear hL;have HS:=qa hs;clear hs hc hl;have HG:=qa (heap_alloc_new w (.cells A 41));have HR:=qa hro;clear hro;have HRC:=qa hrc;clear hrc;have hlo: -1<=gO d.cls:=by unfold gO;split<;>omega
 by_cases hok:(1<=d.next.length/\d.next.length<=1000)/\d.rules.length=d.next.length/\0<=gO d.cls
 ·obtain⟨⟨h1,h2⟩,h3,h4⟩:=hok
  obtain⟨n,hn'⟩:∃n,bE 0 d.cls=some n:=by
   cases hq:bE 0 d.cls with
   |some n=>exact⟨n,rfl⟩
   |none=>simp[gO,hq]at h4
  have hci:gO d.cls=(n:Int):=by simp[gO,hn']
  have HN:=qa hn';clear hn';have h5:((d.rules.length:Int) != (d.next.length:Int))=false:=by simp[h3]
  have H3:=qa h3;clear h3;rw[hci]at HL h4 hlo;have HC:=qa hci;clear hci;go_enter func212,ntmps212
  go_wp2_with(first|(refine dQ rfl _ rfl w.heap.size rfl A HS.o HG.o ?_)|(go_at_call 216;refine(HL.o _ (aA _ _)).mono ?_;rintro e w' ⟨rfl,x,rfl⟩))
  go_loop [31] (fun i=>∃k:Nat,k<=d.next.length/\i=.int .i64 k/\∀j,j<k->D4 d.next.length n (d.rules.getD j 0) (d.next.getD j [])) (fun i=>d.next.length-(intOf i).toNat)
  case atStart=>exact⟨0,qd _,rfl,fun j hj=>absurd hj (qz j)⟩
  case round=>
   obtain⟨k,hk,rfl,hall⟩:=hrel;have HA:=qa hall;clear hall;by_cases hlt:k<d.next.length
   ·obtain⟨oi,ci,bi,fi,hck,hdk,hcj,-⟩:=HR.o k hlt
    have hrk:=HRC.o k (by rw[H3.o];exact hlt);have qdT:k<d.rules.length:=by rw[H3.o];exact hlt
    have hb:=hd.hblk (by omega);have hb':=hd'.hblk (by omega);have hlk:=hdk.hsml;have qbJ:=aU (P:=prog) 39 3 underlying39 (by kernel_rfl) hdk;have hblk:=hdk.hblk;have HD:=qa hdk;clear hdk;have HCJ:=qa hcj;clear hcj
    have HW:Hid (D4 d.next.length n (d.rules.getD k 0) (d.next.getD k [])->∀q,q<k+1->D4 d.next.length n (d.rules.getD q 0) (d.next.getD q [])):=qa (fun h q hq=>by
     rcases Nat.lt_succ_iff_lt_or_eq.1 hq with h1|rfl
     ·exact HA.o q h1
     exact h)
    have HV:Hid (bZ d->D4 d.next.length n (d.rules.getD k 0) (d.next.getD k [])):=qa (fun hv=>by
     obtain⟨_,_,_,q,hq,hall⟩:=hv;have:q=n:=by have:=HN.o;rw[this]at hq;exact(qo hq).symm
     subst this;exact hall k hlt)
    generalize d.rules.getD k 0=r at*;generalize d.next.getD k []=row at*;by_cases qdI: -1<=r/\r<32/\row.length=n
    ·obtain⟨g1,g2,g3⟩:=qdI
     have g4:((row.length:Int) != (n:Int))=false:=by simp[g3]
     have G3:=qa g3;clear g3;go_wp2
     go_loop [64] (fun i=>∃j:Nat,j<=row.length/\i=.int .i64 j/\∀q,q<j->0<=row.getD q 0/\row.getD q 0<d.next.length) (fun i=>row.length-(intOf i).toNat)
     case atStart=>exact⟨0,qd _,rfl,fun j hj=>absurd hj (qz j)⟩
     case round=>
      obtain⟨j,hj,rfl,qbG⟩:=hrel;have HJ:=qa qbG;clear qbG;by_cases qbj:j<row.length
      ·have hcell:=HCJ.o j qbj
       have hbb:=hblk (by omega);have HX:Hid (bZ d->0<=row.getD j 0/\row.getD j 0<d.next.length):=qa (fun hv=>(HV.o hv).2.2.2 j qbj)
       exact ZmA0
      go_wp2
      go_round
      case rel=>
       refine⟨k+1,by omega,by go_num,HW.o ⟨g1,g2,G3.o,?_⟩⟩;have hjj:j=row.length:=by omega
       rw[<-hjj];exact HJ.o
      case measure=>simp[intOf];omega
    have HF:Hid (¬bZ d):=qa (fun hv=>qdI ⟨(HV.o hv).1,(HV.o hv).2.1,(HV.o hv).2.2.1⟩);by_cases g1: -1<=r
    ·by_cases g2:r<32
     ·have g4:((row.length:Int) != (n:Int))=true:=by simp;omega
      exact ZmA3
     have g4:(32:Int)<=r:=by omega
     exact ZmA3
    have g4:r< -1:=by omega
    exact ZmA3
   exact ZmA7
 have HF:Hid (¬bZ d):=qa (fun hv=>hok ⟨⟨hv.1,hv.2.1⟩,hv.2.2.1,by obtain⟨q,hq,-⟩:=hv.2.2.2;simp[gO,hq]⟩);generalize gO d.cls=c at*;by_cases h1:1<=d.next.length
 ·by_cases h2:d.next.length<=1000
  ·by_cases h3:d.rules.length=d.next.length
   ·have h5:((d.rules.length:Int) != (d.next.length:Int))=false:=by simp[h3]
    have h4:c<0:=by omega
    clear h3 hok;go_enter func212,ntmps212
    exact ZmA1
   have h5:((d.rules.length:Int) != (d.next.length:Int))=true:=by simp;omega
   clear hok;go_enter func212,ntmps212
   exact ZmA1
  have h5:(1000:Int)<d.next.length:=by omega
  clear hok;go_enter func212,ntmps212
  exact ZmA1
 have h5:(d.next.length:Int)<1:=by omega
 clear hok;go_enter func212,ntmps212
 exact ZmA1
end Go.Cm
namespace Go.Cm
def q6j(L:List Nat):Nat->Nat
 |0=>0
 |n+1=>if n=0 then 0 else 2*(q6j L n+L.count n)
def qa2(L:List Nat)(i:Nat):Nat:=(L.take i).count (L.getD i 0)
def q8S(L:List Nat)(i:Nat):Nat:=if L.getD i 0=0 then 0 else q6j L (L.getD i 0)+qa2 L i
end Go.Cm
namespace Go.Cm
open Go.RowKit Go.Extern.Stop Go.Stop Go.Extern Go.Proofs
theorem Ea.valueOf27(t:Addr)(w:World):(ReflectliteValue.unpack (.iface 118 (.pointer (some t)))).run prog w
  =.ok (.agg #[.pointer (some ⟨7,118,none⟩),.pointer (some ⟨w.heap.size,0,none⟩),.int .u64 150]) (w.alloc (.cells #[.pointer (some t)] 118)):=by kernel_rfl
theorem Ea.type27(a:Addr)(w:World):(ReflectliteValue.methodAny (ReflectliteValue.valueError "reflectlite.Value.Type" 0) (fun t _ _ _=>ReflectliteType.toType t) #[.agg #[.pointer (some ⟨7,118,none⟩),.pointer (some a),.int .u64 150]]).run prog w
  =.ok (.iface 148 (.agg #[.pointer (some ⟨7,118,none⟩)])) w:=by kernel_rfl
theorem Ea.methodKind(h:Value)(w:World):(Go.method 377 148 (.agg #[h]) "Kind").run prog w=.ok (158,h) w:=by kernel_rfl
theorem Ea.kind27(w:World):((ReflectliteType.abiMethod fun t=>Functor.map (fun a:Nat=>Value.int IntKind.u8 (a:Int)) (Rtype.kind t)) #[.pointer (some ⟨7,118,none⟩)]).run prog w=.ok (.int .u8 22) w:=by kernel_rfl
theorem Ea.kind25(w:World):((ReflectliteType.abiMethod fun t=>Functor.map (fun a:Nat=>Value.int IntKind.u8 (a:Int)) (Rtype.kind t)) #[.pointer (some ⟨7,75,none⟩)]).run prog w=.ok (.int .u8 22) w:=by kernel_rfl
theorem rlm(z:Sem Value)(f:TypeId->Addr->Nat->Nat->Sem Value)(v:Value):
  ReflectliteValue.method z f #[v]=(do match<-ReflectliteValue.parts v with|none=>z|some (t,a,fl)=>f t a fl (fl%32)):=rfl
theorem Ea.parts27(a:Addr)(w:World):(ReflectliteValue.parts (.agg #[.pointer (some ⟨7,118,none⟩),.pointer (some a),.int .u64 150])).run prog w=.ok (some (118,a,150)) w:=by kernel_rfl
theorem Ea.isNil27(a p:Addr)(W:World)(ha:W.cell? a=some (.pointer (some p))):
  (ReflectliteValue.method (ReflectliteValue.valueError "reflectlite.Value.IsNil" 0) ReflectliteValue.isNil #[.agg #[.pointer (some ⟨7,118,none⟩),.pointer (some a),.int .u64 150]]).run prog W=.ok (.bool false) W:=by
 rw[rlm];simp only[Sem.run_bind,Ea.parts27,Result.andThen];simp[ReflectliteValue.isNil,loadVar,isAgg,underlying,underlying118,ha,Result.andThen]
theorem Ea.methodElem(h:Value)(w:World):(Go.method 377 148 (.agg #[h]) "Elem").run prog w=.ok (186,.agg #[h]) w:=by kernel_rfl
theorem Ea.methodImplements(h:Value)(w:World):(Go.method 377 148 (.agg #[h]) "Implements").run prog w=.ok (187,.agg #[h]) w:=by kernel_rfl
theorem Ea.methodAssignableTo(h:Value)(w:World):(Go.method 377 148 (.agg #[h]) "AssignableTo").run prog w=.ok (184,.agg #[h]) w:=by kernel_rfl
theorem Ea.elem27(w:World):(ReflectliteType.method ReflectliteType.elem #[.agg #[.pointer (some ⟨7,118,none⟩)]]).run prog w=.ok (.iface 148 (.agg #[.pointer (some ⟨7,75,none⟩)])) w:=by kernel_rfl
theorem Ea.implements25(w:World):(ReflectliteType.relation "Implements" ReflectliteType.implements_ #[.agg #[.pointer (some ⟨7,75,none⟩)],.iface 148 (.agg #[.pointer (some ⟨7,43,none⟩)])]).run prog w=.ok (.bool true) w:=by kernel_rfl
theorem Ea.typeOf25(v:Value)(w:World):(ReflectliteType.typeOf #[.iface 75 v]).run prog w=.ok (.iface 148 (.agg #[.pointer (some ⟨7,75,none⟩)])) w:=by kernel_rfl
theorem Ea.assignable25(w:World):(ReflectliteType.relation "AssignableTo" ReflectliteType.assignableTo #[.agg #[.pointer (some ⟨7,75,none⟩)],.iface 148 (.agg #[.pointer (some ⟨7,75,none⟩)])]).run prog w=.ok (.bool true) w:=by kernel_rfl
theorem Ea.valueOf25(e:Addr)(w:World):(ReflectliteValue.unpack (.iface 75 (.pointer (some e)))).run prog w
  =.ok (.agg #[.pointer (some ⟨7,75,none⟩),.pointer (some ⟨w.heap.size,0,none⟩),.int .u64 150]) (w.alloc (.cells #[.pointer (some e)] 75)):=by kernel_rfl
theorem Ea.elemOf27(w:World):(Rtype.elem? 118).run prog w=.ok (some 75) w:=by kernel_rfl
theorem Ea.mk25(p:Addr)(w:World):(ReflectliteValue.mk 75 p ReflectliteValue.flagAddr).run prog w=.ok (.agg #[.pointer (some ⟨7,75,none⟩),.pointer (some p),.int .u64 406]) w:=by kernel_rfl
theorem Ea.elemV27(a p:Addr)(W:World)(ha:W.cell? a=some (.pointer (some p))):
  (ReflectliteValue.method (ReflectliteValue.valueError "reflectlite.Value.Elem" 0) ReflectliteValue.elem #[.agg #[.pointer (some ⟨7,118,none⟩),.pointer (some a),.int .u64 150]]).run prog W
   =.ok (.agg #[.pointer (some ⟨7,75,none⟩),.pointer (some p),.int .u64 406]) W:=by
 rw[rlm];simp only[Sem.run_bind,Ea.parts27,Result.andThen];simp[ReflectliteValue.elem,loadVar,isAgg,underlying,underlying118,ha,Result.andThen,Ea.elemOf27,Ea.mk25]
theorem rls(v x:Value):ReflectliteValue.set #[v,x]=(do
  let (some (dst,a,fl),some (src,b,_)):=(<-ReflectliteValue.parts v,<-ReflectliteValue.parts x)
   |unsupported (.noEntry "extern/(internal/reflectlite.Value).Set.zeroValue")
  if fl/ReflectliteValue.flagAddr%2==0 then unsupported (.noEntry "extern/(internal/reflectlite.Value).Set.unaddressable")
  let val<-loadVar src b
  if<-Rtype.directlyAssignable dst src then storeVar dst a val
  else if<-Rtype.implements dst src then
   if(<-Rtype.kind src)==20 then
    match val with
    |.nilIface=>unsupported (.noEntry "extern/reflectlite: a nil value of one interface type handed on as a value of another")
    |_=>storeVar dst a val
   else storeVar dst a (.iface src val)
  else panicString ("reflectlite.Set: value of type " ++(<-Rtype.spelt src)++ " is not assignable to type " ++(<-Rtype.spelt dst))
  pure (.tuple #[])):=rfl
theorem Ea.parts25a(a:Addr)(w:World):(ReflectliteValue.parts (.agg #[.pointer (some ⟨7,75,none⟩),.pointer (some a),.int .u64 406])).run prog w=.ok (some (75,a,406)) w:=by kernel_rfl
theorem Ea.parts25(a:Addr)(w:World):(ReflectliteValue.parts (.agg #[.pointer (some ⟨7,75,none⟩),.pointer (some a),.int .u64 150])).run prog w=.ok (some (75,a,150)) w:=by kernel_rfl
theorem Ea.direct25(w:World):(Rtype.directlyAssignable 75 75).run prog w=.ok true w:=by kernel_rfl
theorem Ea.set25(ta b e:Addr)(old:Value)(W:World)(hb:W.cell? b=some (.pointer (some e)))(ht:W.cell? ta=some old)(hf:W.frozen? ta=false):
  (ReflectliteValue.set #[.agg #[.pointer (some ⟨7,75,none⟩),.pointer (some ta),.int .u64 406],.agg #[.pointer (some ⟨7,75,none⟩),.pointer (some b),.int .u64 150]]).run prog W
   =.ok (.tuple #[]) (W.setCell ta (.pointer (some e))):=by
 rw[rls];simp only[Sem.run_bind,Ea.parts25a,Ea.parts25,Result.andThen];simp[ReflectliteValue.flagAddr,loadVar,isAgg,underlying,underlying75,hb,Result.andThen,Ea.direct25,storeVar,Value.cells,storeCells,Addr.add];rw[run_store prog W ta _ _ (by rfl)];simp[ht,hf]
theorem Ea.typeOf29(v:Value)(w:World):(ReflectliteType.typeOf #[.iface 192 v]).run prog w=.ok (.iface 148 (.agg #[.pointer (some ⟨7,192,none⟩)])) w:=by kernel_rfl
theorem Ea.assignable29(w:World):(ReflectliteType.relation "AssignableTo" ReflectliteType.assignableTo #[.agg #[.pointer (some ⟨7,192,none⟩)],.iface 148 (.agg #[.pointer (some ⟨7,75,none⟩)])]).run prog w=.ok (.bool false) w:=by kernel_rfl
theorem Ea.noAs(v:Value)(xT:TypeId)(w:World):(Instr.typeAssert (.iface 192 v) xT 153 true).run prog w=.ok (.tuple #[.nilIface,.bool false]) w:=run_typeAssert_lacksB underlying153 (by kernel_rfl) (by kernel_rfl) v xT w
theorem Ea.noUn(v:Value)(xT:TypeId)(w:World):(Instr.typeAssert (.iface 192 v) xT 156 true).run prog w=.ok (.tuple #[.nilIface,.bool false]) w:=run_typeAssert_lacksB underlying156 (by kernel_rfl) (by kernel_rfl) v xT w
theorem Ea.noUns(v:Value)(xT:TypeId)(w:World):(Instr.typeAssert (.iface 192 v) xT 158 true).run prog w=.ok (.tuple #[.nilIface,.bool false]) w:=run_typeAssert_lacksB underlying158 (by kernel_rfl) (by kernel_rfl) v xT w
theorem q7u(e:Value)(t:Addr)(w:World)(hg:w.cell? ⟨0,0,none⟩=some (.iface 148 (.agg #[.pointer (some ⟨7,43,none⟩)]))):
  Calls prog 57 #[.iface 192 e,.iface 118 (.pointer (some t))] w fun ev w'=>ev=.returned (.bool false)/\w'=(((w.alloc (.cells #[.pointer (some t)] 118)).alloc (.cells #[.pointer (some ⟨7,118,none⟩),.pointer (some ⟨w.heap.size,0,none⟩),.int .u64 150] 131)).alloc (.cells #[.pointer (some ⟨7,118,none⟩),.pointer (some ⟨w.heap.size,0,none⟩),.int .u64 150] 131)):=by
 have h6:=@run_callFunc_extern prog 78 _ (fun args=>ReflectliteValue.unpack (args.getD 0 (.tuple #[]))) func78 (by kernel_rfl) (by kernel_rfl) (by kernel_rfl) (by kernel_rfl);have h7:=@run_callFunc_extern prog 79 _ (ReflectliteValue.methodAny (ReflectliteValue.valueError "reflectlite.Value.Type" 0) (fun t _ _ _=>ReflectliteType.toType t)) func79 (by kernel_rfl) (by kernel_rfl) (by kernel_rfl) (by kernel_rfl);have h8:=@run_callFunc_extern prog 80 _ (ReflectliteValue.method (ReflectliteValue.valueError "reflectlite.Value.IsNil" 0) ReflectliteValue.isNil) func80 (by kernel_rfl) (by kernel_rfl) (by kernel_rfl) (by kernel_rfl);have h27:=@run_callFunc_extern prog 158 _ (ReflectliteType.abiMethod fun t=>do pure (.int .u8 (<-Rtype.kind t))) func158 (by kernel_rfl) (by kernel_rfl) (by kernel_rfl) (by kernel_rfl);have h37:=@run_callFunc_extern prog 186 _ (ReflectliteType.method ReflectliteType.elem) func186 (by kernel_rfl) (by kernel_rfl) (by kernel_rfl) (by kernel_rfl);have h38:=@run_callFunc_extern prog 187 _ (ReflectliteType.relation "Implements" ReflectliteType.implements_) func187 (by kernel_rfl) (by kernel_rfl) (by kernel_rfl) (by kernel_rfl);have h10:=@run_callFunc_extern prog 92 _ ReflectliteType.typeOf func92 (by kernel_rfl) (by kernel_rfl) (by kernel_rfl) (by kernel_rfl);have h35:=@run_callFunc_extern prog 184 _ (ReflectliteType.relation "AssignableTo" ReflectliteType.assignableTo) func184 (by kernel_rfl) (by kernel_rfl) (by kernel_rfl) (by kernel_rfl);have tO:=Ea.typeOf29;have a25:=Ea.assignable29;have x1:=Ea.noAs;have x2:=Ea.noUn;have x3:=Ea.noUns;have f6:=Ea.valueOf27;have f7:=Ea.type27;have mK:=Ea.methodKind;have mE:=Ea.methodElem;have mI:=Ea.methodImplements;have k27:=Ea.kind27;have k25:=Ea.kind25;have e27:=Ea.elem27;have i25:=Ea.implements25;have mA:=Ea.methodAssignableTo;have n8:=Ea.isNil27 ⟨w.heap.size,0,none⟩ t ((w.alloc (.cells #[.pointer (some t)] 118)).alloc (.cells #[.pointer (some ⟨7,118,none⟩),.pointer (some ⟨w.heap.size,0,none⟩),.int .u64 150] 131)) (by simp)
 have hlt:0<w.heap.size:=by
  exact ZmA16
 have hg2:((w.alloc (.cells #[.pointer (some t)] 118)).alloc (.cells #[.pointer (some ⟨7,118,none⟩),.pointer (some ⟨w.heap.size,0,none⟩),.int .u64 150] 131)).cell? ⟨0,0,none⟩=some (.iface 148 (.agg #[.pointer (some ⟨7,43,none⟩)])):=by
  exact ZmA8
 go_enter func57,ntmps57;go_wp2;refine wp_loop_rounds 1 ?_;rw[rounds_succ];go_wp2;go_ret;exact⟨rfl,rfl⟩
theorem q8Y(e t:Addr)(old:Value)(w:World)(hg:w.cell? ⟨0,0,none⟩=some (.iface 148 (.agg #[.pointer (some ⟨7,43,none⟩)])))(ht0:w.cell? t=some old)(hf0:w.frozen? t=false):
  Calls prog 57 #[.iface 75 (.pointer (some e)),.iface 118 (.pointer (some t))] w fun ev w'=>ev=.returned (.bool true)/\w'=((((w.alloc (.cells #[.pointer (some t)] 118)).alloc (.cells #[.pointer (some ⟨7,118,none⟩),.pointer (some ⟨w.heap.size,0,none⟩),.int .u64 150] 131)).alloc (.cells #[.pointer (some ⟨7,118,none⟩),.pointer (some ⟨w.heap.size,0,none⟩),.int .u64 150] 131)).alloc (.cells #[.pointer (some e)] 75)).setCell t (.pointer (some e)):=by
 have h6:=@run_callFunc_extern prog 78 _ (fun args=>ReflectliteValue.unpack (args.getD 0 (.tuple #[]))) func78 (by kernel_rfl) (by kernel_rfl) (by kernel_rfl) (by kernel_rfl);have h7:=@run_callFunc_extern prog 79 _ (ReflectliteValue.methodAny (ReflectliteValue.valueError "reflectlite.Value.Type" 0) (fun t _ _ _=>ReflectliteType.toType t)) func79 (by kernel_rfl) (by kernel_rfl) (by kernel_rfl) (by kernel_rfl);have h8:=@run_callFunc_extern prog 80 _ (ReflectliteValue.method (ReflectliteValue.valueError "reflectlite.Value.IsNil" 0) ReflectliteValue.isNil) func80 (by kernel_rfl) (by kernel_rfl) (by kernel_rfl) (by kernel_rfl);have h27:=@run_callFunc_extern prog 158 _ (ReflectliteType.abiMethod fun t=>do pure (.int .u8 (<-Rtype.kind t))) func158 (by kernel_rfl) (by kernel_rfl) (by kernel_rfl) (by kernel_rfl);have h37:=@run_callFunc_extern prog 186 _ (ReflectliteType.method ReflectliteType.elem) func186 (by kernel_rfl) (by kernel_rfl) (by kernel_rfl) (by kernel_rfl);have h38:=@run_callFunc_extern prog 187 _ (ReflectliteType.relation "Implements" ReflectliteType.implements_) func187 (by kernel_rfl) (by kernel_rfl) (by kernel_rfl) (by kernel_rfl);have h10:=@run_callFunc_extern prog 92 _ ReflectliteType.typeOf func92 (by kernel_rfl) (by kernel_rfl) (by kernel_rfl) (by kernel_rfl);have h35:=@run_callFunc_extern prog 184 _ (ReflectliteType.relation "AssignableTo" ReflectliteType.assignableTo) func184 (by kernel_rfl) (by kernel_rfl) (by kernel_rfl) (by kernel_rfl);have h11:=@run_callFunc_extern prog 93 _ (ReflectliteValue.method (ReflectliteValue.valueError "reflectlite.Value.Elem" 0) ReflectliteValue.elem) func93 (by kernel_rfl) (by kernel_rfl) (by kernel_rfl) (by kernel_rfl);have h12:=@run_callFunc_extern prog 94 _ ReflectliteValue.set func94 (by kernel_rfl) (by kernel_rfl) (by kernel_rfl) (by kernel_rfl);have tO:=Ea.typeOf25;have a25:=Ea.assignable25;have v25:=Ea.valueOf25;have f6:=Ea.valueOf27;have f7:=Ea.type27;have mK:=Ea.methodKind;have mE:=Ea.methodElem;have mI:=Ea.methodImplements;have k27:=Ea.kind27;have k25:=Ea.kind25;have e27:=Ea.elem27;have i25:=Ea.implements25;have mA:=Ea.methodAssignableTo;have n8:=Ea.isNil27 ⟨w.heap.size,0,none⟩ t ((w.alloc (.cells #[.pointer (some t)] 118)).alloc (.cells #[.pointer (some ⟨7,118,none⟩),.pointer (some ⟨w.heap.size,0,none⟩),.int .u64 150] 131)) (by simp)
 have hlt:0<w.heap.size:=by
  exact ZmA16
 have hg2:((w.alloc (.cells #[.pointer (some t)] 118)).alloc (.cells #[.pointer (some ⟨7,118,none⟩),.pointer (some ⟨w.heap.size,0,none⟩),.int .u64 150] 131)).cell? ⟨0,0,none⟩=some (.iface 148 (.agg #[.pointer (some ⟨7,43,none⟩)])):=by
  exact ZmA8
 have htl:t.block<w.heap.size:=by
  rcases jO t.block w.heap.size with h|h
  ·exact h
  simp[World.cell?,jr h]at ht0
 have el:=Ea.elemV27 ⟨w.heap.size,0,none⟩ t (((w.alloc (.cells #[.pointer (some t)] 118)).alloc (.cells #[.pointer (some ⟨7,118,none⟩),.pointer (some ⟨w.heap.size,0,none⟩),.int .u64 150] 131)).alloc (.cells #[.pointer (some ⟨7,118,none⟩),.pointer (some ⟨w.heap.size,0,none⟩),.int .u64 150] 131)) (by rw[World.cell?_alloc_lt _ _ ⟨w.heap.size,0,none⟩ (by simp;omega)];simp)
 have st:=Ea.set25 t ⟨w.heap.size+1+1+1,0,none⟩ e old ((((w.alloc (.cells #[.pointer (some t)] 118)).alloc (.cells #[.pointer (some ⟨7,118,none⟩),.pointer (some ⟨w.heap.size,0,none⟩),.int .u64 150] 131)).alloc (.cells #[.pointer (some ⟨7,118,none⟩),.pointer (some ⟨w.heap.size,0,none⟩),.int .u64 150] 131)).alloc (.cells #[.pointer (some e)] 75))
  (by rw[World.cell?_alloc_at _ _ _ _ (by simp)];rfl)
  (by rw[World.cell?_alloc_lt _ _ t (by simp;omega),World.cell?_alloc_lt _ _ t (by simp;omega),World.cell?_alloc_lt _ _ t (by simp;omega),World.cell?_alloc_lt _ _ t htl];exact ht0)
  (by rw[World.frozen?_alloc_old _ _ t (by simp;omega),World.frozen?_alloc_old _ _ t (by simp;omega),World.frozen?_alloc_old _ _ t (by simp;omega),World.frozen?_alloc_old _ _ t (Nat.ne_of_lt htl)];exact hf0)
 go_enter func57,ntmps57;go_wp2;refine wp_loop_rounds 1 ?_;rw[rounds_succ];go_wp2;go_ret;exact⟨rfl,rfl⟩
end Go.Cm
