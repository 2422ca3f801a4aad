/- Walks of functions and plain facts, joined and squeezed by a program. Conditions: as each says. -/
import Derived.Laws.BitsLemmas
import Derived.Deep.DeepCutAuto
import Derived.Deep.LoopGhost
import Derived.LaidLaws
import Derived.LaidHandle
import Derived.Stop.Joined
import Derived.Test.YtdffpnabpoogbaaGreatDoorCTXA
import Derived.Test.YtdffpnabpoogbaaGreatDoorCTXB
set_option maxHeartbeats 8000000
set_option maxRecDepth 100000
set_option linter.unusedSimpArgs false
open Go.Proofs.Tryz
namespace Go.Cm
theorem ZmE0{P:Prop}(h:P:=by rw[World.cell?_alloc_lt _ _ ⟨0,0,none⟩ (hL.lt _ (.inl rfl))];exact hL.et):P:=h
section
variable {α β : Type} [DecidableEq β] {f : α → β} {l : List α} {s z : α}
theorem U6{a b:α}(h:f a=f b):bP f l a=bP f l b:=by unfold bP;rw[h]
theorem M4(h:s∈l):f s∈(aL f l).map f:=by rw[bV,dP];exact jb h
theorem zI(h:s∈l):f ((aL f l).getD (bP f l s) z)=f s:=by
 have h1:=iR (f:=f) h;have h2:=gU (M4 (f:=f) h);rw[jt]at h2;unfold bP at h1⊢;rw[qq,qv h1];exact h2
theorem vK(a:α)(l:List α):∃m,aL f (a::l)=a::m:=by
 obtain⟨k,hk⟩:=lD f [a] l;exact⟨k,by simpa[aL]using hk⟩
theorem wT(a:α)(l:List α):bP f (a::l) a=0:=by
 obtain⟨m,hm⟩:=vK (f:=f) a l;unfold bP idx;rw[hm];simp
theorem i9(f:α->β):∀(m l:List α),bE (aL f l).length (nl (m.map (bP f (l++m))))=some (aL f (l++m)).length
 |[],l=>by simp[nl,bE]
 |a::m,l=>by
  have e:bP f (l++a::m) a=bP f (l++[a]) a:=by
   rw[show l++a::m=l++[a]++m by simp];exact rY (by simp)
  have ih:=i9 f m (l++[a]);rw[show l++[a]++m=l++a::m by simp]at ih;simp only[nl,qF,bE,e]at ih⊢;by_cases h:f a∈(aL f l).map f
  ·have h1:aL f (l++[a])=aL f l:=by rw[cC,qt h]
   have h2:=iR (f:=f) (l:=l++[a]) (s:=a) (by simp);rw[h1]at h2 ih;rw[qr (by omega),qr (by omega)];exact ih
  have h1:aL f (l++[a])=aL f l++[a]:=by rw[cC,qr h]
  have h2:bP f (l++[a]) a=(aL f l).length:=by
   unfold bP;rw[h1,qD,qF,jq,dN h,qy]
  rw[h1,qi,qB]at ih;rw[qr (by omega),qt (by omega)];exact ih
end
theorem M5(l:List Int):∀n k,bE n l=some k->l.foldl aW (nl (List.range n))=nl (List.range k):=by
 induction l with
 |nil=>intro n k h;simp[bE]at h;subst h;rfl
 |cons a l ih=>
  intro n k h;simp only[bE]at h;split at h
  ·cases h
  rename_i hn;have ha:a=((a.toNat:Nat):Int):=by omega
  split at h
  ·rename_i he
   subst he;have:=ih _ _ h;rw[qH]
   have e:aW (nl (List.range n)) (n:Int)=nl (List.range (n+1)):=by
    unfold aW;rw[qr (fun hm=>by rw[q23,a6]at hm;omega),jw,rV];rfl
   rw[e];exact this
  rename_i he;have:=ih _ _ h;rw[qH]
  have e:aW (nl (List.range n)) a=nl (List.range n):=by
   unfold aW;rw[qt (by rw[ha,q23,a6];omega)]
  rw[e];exact this
theorem q27{d:Dfa}(hv:bZ d):bE 0 d.cls=some (bQ d):=by
 obtain⟨h1,h2,h3,k,hk,hr⟩:=hv;have:=(hr 0 (by omega)).2.2.1;unfold bQ;rw[this];exact hk
theorem wU{d:Dfa}(hv:bZ d){x:Int}(hx:x∈d.cls):0<=x/\x<bQ d:=pV _ _ _ (q27 hv) x hx
theorem q4A{d:Dfa}(hv:bZ d):eW d.cls=nl (List.range (bQ d)):=M5 _ _ _ (q27 hv)
theorem mT{d:Dfa}(hv:bZ d){c:Nat}(hc:c<bQ d):(c:Int)∈d.cls:=by
 rw[<-dP,q4A hv,q23,a6];exact hc
theorem q28{d:Dfa}(hv:bZ d):0<(heads d).length:=Nat.lt_of_le_of_lt (qd _) (zH (mC hv))
theorem vW{d:Dfa}{i:Nat}(hi:i<(heads d).length):(heads d).getD i 0∈dW d:=M3 (dH _ _ _ hi)
theorem iS{d:Dfa}(hv:bZ d){s:Nat}(h:s∈dW d):s<d.next.length:=(gM hv).2.1 s h
theorem q29{d:Dfa}(hv:bZ d){i c:Nat}(hi:i<d.next.length)(hc:c<bQ d):aM d i c∈aS d i:=by
 unfold aM;exact dH _ _ _ (by rw[dG hv hi];exact hc)
theorem rE{d:Dfa}(hv:bZ d){s c:Nat}(hs:s∈dW d)(hc:c<bQ d):aM d s c∈dW d:=tQ hv hs (q29 hv (iS hv hs) hc)
theorem rZ{d:Dfa}{a b:Nat}(h:Eqv d a b):num d a=num d b:=U6 (E0.2 h)
theorem s9{d:Dfa}{s:Nat}(h:s∈dW d):Eqv d ((heads d).getD (num d s) 0) s:=E0.1 (zI h)
theorem iU(d:Dfa):(dL d).length=(heads d).length:=by simp[dL]
theorem tR(d:Dfa){i:Nat}(hi:i<(heads d).length):(dL d).getD i []=nl ((aS d ((heads d).getD i 0)).map (num d)):=by
 simp[dL,List.getD,hi]
theorem oT{d:Dfa}(hv:bZ d){i c:Nat}(hi:i<(heads d).length)(hc:c<bQ d):((dL d).getD i []).getD c 0=(num d (aM d ((heads d).getD i 0) c):Nat):=by
 rw[tR d hi,tL];have h:=dG hv (iS hv (vW hi));unfold aM;have h2:c<(aS d ((heads d).getD i 0)).length:=by rw[h];exact hc
 simp only[qq,qQ]at h2⊢;rw[qv h2];rfl
noncomputable def mD(d:Dfa):List Int:=E1 (dL d) d.cls
theorem q4B{d:Dfa}{c:Nat}(hc:c<(mD d).length):(mD d).getD c 0∈d.cls:=eL (f:=K9 (dL d)) (dH _ _ _ hc)
theorem mF{d:Dfa}(hv:bZ d){c:Nat}(hc:c<(mD d).length):0<=(mD d).getD c 0/\(mD d).getD c 0<bQ d:=wU hv (q4B hc)
theorem M6{d:Dfa}{i:Nat}(hi:i<(heads d).length):fW (hU d) i=fW d ((heads d).getD i 0):=by
 simp[fW,hU,List.getD,hi]
theorem sA(d:Dfa):(hU d).next.length=(heads d).length:=by simp[hU,wR,iU]
theorem vX{d:Dfa}{i:Nat}(hi:i<(heads d).length):(hU d).next.getD i []=(mD d).map fun k=>((dL d).getD i []).getD k.toNat 0:=by
 have:i<(dL d).length:=by rw[iU];exact hi
 simp[hU,wR,mD,List.getD,this]
theorem wV{d:Dfa}(hv:bZ d){i c:Nat}(hi:i<(heads d).length)(hc:c<(mD d).length):((hU d).next.getD i []).getD c 0=(num d (aM d ((heads d).getD i 0) ((mD d).getD c 0).toNat):Nat):=by
 have h:=mF hv hc;rw[<-oT hv hi (by omega),vX hi,qq,qQ,qv hc,qq (l:=mD d),qv hc];rfl
theorem M7{d:Dfa}(hv:bZ d){i c:Nat}(hi:i<(heads d).length)(hc:c<bQ d):num d (aM d ((heads d).getD i 0) c)<(heads d).length:=zH (rE hv (vW hi) hc)
theorem q1h{d:Dfa}(hv:bZ d):bZ (hU d):=by
 have hp:=q28 hv;have hle:=wS hv;have h2:=hv.2.1;refine⟨by rw[sA];omega,by rw[sA];omega,by rw[sA];simp[hU],(mD d).length,?_,fun i hi=>?_⟩
 ·have:=i9 (K9 (dL d)) d.cls []
  simpa[hU,q1X,mD,E1,aL]using this
 rw[sA]at hi⊢;have hr:=M6 hi;unfold fW at hr;obtain⟨-,-,h3,k,hk,hrr⟩:=id hv;obtain⟨h4,h5,-,-⟩:=hrr _ (iS hv (vW hi));refine⟨by rw[hr];exact h4,by rw[hr];exact h5,by rw[vX hi,qy],fun j hj=>?_⟩;rw[vX hi,qy]at hj;rw[wV hv hi hj];have:=mF hv hj;have:=M7 hv hi (c:=((mD d).getD j 0).toNat) (by omega);omega
theorem zJ{d:Dfa}(hv:bZ d){s c:Nat}(hs:s∈dW d)(hc:c<(mD d).length):aM (hU d) (num d s) c=num d (aM d s ((mD d).getD c 0).toNat):=by
 have h:=zH hs;have hl:=mF hv hc;have hm:=vX h
 have e:aM (hU d) (num d s) c=(((hU d).next.getD (num d s) []).getD c 0).toNat:=by
  have hc':c<((hU d).next.getD (num d s) []).length:=by rw[hm,qy];exact hc
  unfold aM aS;simp only[qq,qQ]at hc'⊢;rw[qv hc'];rfl
 rw[e,wV hv h hc];have h2:=(s9 hs).step (c:=((mD d).getD c 0).toNat) (by omega);rw[rZ h2];rfl
noncomputable def q6B(d:Dfa)(x:Int):Nat:=bP (K9 (dL d)) d.cls x
theorem U7{d:Dfa}{x:Int}(hx:x∈d.cls):q6B d x<(mD d).length:=iR hx
theorem q2a{rows:List (List Int)}{a b:Int}(h:K9 rows a=K9 rows b){j:Nat}(hj:j<rows.length):(rows.getD j []).getD a.toNat 0=(rows.getD j []).getD b.toNat 0:=by
 have:=qW (fun l=>l[j]?) h;simp only[K9,qQ,qv hj,jM,jz]at this;simpa[List.getD,hj]using this
theorem q1i{d:Dfa}(hv:bZ d){s c:Nat}(hs:s∈dW d)(hc:c<bQ d):aM (hU d) (num d s) (q6B d c)=num d (aM d s c):=by
 have hx:=mT hv hc;rw[zJ hv hs (U7 hx)];have h:=zH hs;have qh6:=q2a (zI (f:=K9 (dL d)) (z:=0) hx) (j:=num d s) (by rw[iU];exact h);change((dL d).getD (num d s) []).getD ((mD d).getD (q6B d c) 0).toNat 0=_ at qh6;have hl:=mF hv (U7 hx);rw[oT hv h (by omega),qA,oT hv h hc]at qh6;have h1:=rZ ((s9 hs).step (c:=((mD d).getD (q6B d c) 0).toNat) (by omega));have h2:=rZ ((s9 hs).step hc);omega
theorem M8{d:Dfa}(hv:bZ d)(hl:d.cls.length=256)(t:List UInt8):∀s,s∈dW d->∃u,u∈dW d/\eD d (s:Nat) t=(u:Nat)/\eD (hU d) (num d s:Nat) t=(num d u:Nat):=by
 induction t with
 |nil=>intro s hs;exact⟨s,hs,rfl,rfl⟩
 |cons b t ih=>
  intro s hs;have hb:b.toNat<256:=b.toNat_lt;have hm:d.cls.getD b.toNat 0∈d.cls:=dH _ _ _ (by omega);have hr:=wU hv hm;obtain⟨c,hc⟩:∃c:Nat,d.cls.getD b.toNat 0=c:=⟨(d.cls.getD b.toNat 0).toNat,by omega⟩;have hck:c<bQ d:=by omega
  obtain⟨u,h1,h2,h3⟩:=ih _ (rE hv hs hck);refine⟨u,h1,?_,?_⟩
  ·rw[<-h2]
   unfold eD;rw[hc,qA,qA];have hcl:c<(d.next.getD s []).length:=by rw[f8 hv (iS hv hs)];exact hck
   have hnn:=gT hv (iS hv hs) hck
   have e:(d.next.getD s []).getD c 0=(aM d s c:Nat):=by
    obtain⟨_,_,_,k,hk,hrr⟩:=id hv;have:=(hrr s (iS hv hs)).2.2.2 c hcl
    have e2:aM d s c=((d.next.getD s []).getD c 0).toNat:=by
     unfold aM aS;simp only[qq,qQ]at hcl⊢;rw[qv hcl];rfl
    omega
   rw[e];cases t<;>rfl
  rw[<-h3]
  have hcm:(hU d).cls.getD b.toNat 0=(q6B d c:Nat):=by
   have:b.toNat<d.cls.length:=by omega
   rw[show(hU d).cls=q1X (dL d) d.cls from rfl,q1X,tL];simp only[qq,qQ,qv this]at hc⊢;simp only[qJ]at hc;rw[hc];rfl
  have hcx:=mT hv hck;have hlt:=U7 hcx
  have e:((hU d).next.getD (num d s) []).getD (q6B d c) 0=(num d (aM d s c):Nat):=by
   rw[<-q1i hv hs hck,zJ hv hs hlt,wV hv (zH hs) hlt];have hlr:=mF hv hlt;rw[rZ ((s9 hs).step (c:=((mD d).getD (q6B d c) 0).toNat) (by omega))]
  rw[show eD (hU d) (num d s:Nat) (b::t)=eD (hU d) (((hU d).next.getD (num d s:Int).toNat []).getD ((hU d).cls.getD b.toNat 0).toNat 0) t from rfl,hcm,qA,qA,e]
theorem q4C{d:Dfa}(hv:bZ d):num d 0=0:=by
 have h:=(gM hv).1;have hr:0<(dW d).length:=List.length_pos_of_mem (mC hv);have h1:=h.take hr;have h2:T8 (aS d) []=[0]:=by simp[T8,eW,aW]
 rw[List.take_zero,h2]at h1
 have h3:∃l,dW d=0::l:=by
  cases hq:dW d with
  |nil=>rw[hq]at hr;cases hr
  |cons a l=>rw[hq]at h1;simp at h1;subst h1;exact⟨l,rfl⟩
 obtain⟨l,hl⟩:=h3;unfold num;rw[hl];exact wT _ _
theorem q1j{d:Dfa}(hv:bZ d)(hl:d.cls.length=256)(t:List UInt8):iI (hU d) t=iI d t:=by
 obtain⟨u,h1,h2,h3⟩:=M8 hv hl t 0 (mC hv);have h4:=M6 (zH h1);have h5:=(s9 h1).rules;rw[q4C hv]at h3;unfold iI;rw[qt hv,qt (q1h hv)];change eD d 0 t=_ at h2;change eD (hU d) 0 t=_ at h3;rw[h2,h3,qA,qA];exact h4.trans h5
end Go.Cm
namespace Go.Cm
open Go.RowKit Go.Proofs Go.WideShapes Go.ChangeShapes Go.Deep
section
variable {H : Type} {enc : TypeId × Value → H} {P : Program} {w : World} {base : Nat} {held : Bool}
theorem q55{t e:TypeId}{fuel:Nat}{cs:List Value}{x:DataW H×List MemPlace}(k:Nat)(hk:0<k)(ht:P.underlying t=some (.slice e))(hc:P.cellsOf e=k)(hb:1<=P.bytesOf e)(h:DataW.trod enc P w base (fun _=>true) held fuel t cs=some x)(hw:∀n∈x.1.weights P t,n<=reachBytes):
  ∃(oa:Option Addr) (len cap b off:Nat) (C:Nat->List Value) (D:Nat->DataW H),cs=[.slice oa len cap]/\Hd w oa len cap b off/\∀i,i<len->(C i).length=k/\(∀c,c<k->w.cell? ⟨b,off+i*k+c,none⟩=some ((C i).getD c undef))/\(∃n p,DataW.trod enc P w base (fun _=>true) held n e (C i)=some (D i,p))/\∀n∈(D i).weights P e,n<=reachBytes:=by
 rcases open_slice ht h with⟨rfl,-⟩|⟨a,len,cap,m,n,D,Pl,rfl,-,hl,hm,hmm,rfl,hx⟩
 ·exact⟨none,0,0,0,0,fun _=>[],fun _=>.nil,rfl,⟨fun h=>absurd h (jH 0),qb _,by simp[maxLen],by simp,fun h=>absurd h (jH 0)⟩,fun i hi=>absurd hi (qz i)⟩
 simp only[jG]at hmm;subst hmm;rw[hc]at hx;have hwt:=I0 (P:=P) (elems:=(List.range len).map D) (spare:=(List.range (m-len)).map fun j=>D (len+j)) ht;simp only at hw;rw[hwt]at hw;have h1:=hw _ (je ..);simp only[qy,List.length_range]at h1;have h2:m*1<=(len+(m-len))*P.bytesOf e:=Nat.mul_le_mul (by omega) hb;rw[I1]at h1
 have hx2:∀i,i<m->∃cs',cs'.length=k/\(∀c,c<k->w.cell? ((a.add (i*k)).add c)=some (cs'.getD c undef))/\DataW.trod enc P w base (fun _=>true) held n e cs'=some (D i,Pl i):=fun i hi=>by
  obtain⟨cs',h3,h4⟩:=hx i hi;obtain⟨_,hlen,hcell⟩:=World.cells?_some h3;refine⟨cs',hlen,fun c hcl=>?_,h4⟩;rw[hcell c (by omega)];simp[List.getD,show c<cs'.length by omega]
 obtain⟨C,hC⟩:=choose_lt hx2;obtain⟨ab,ao,asp⟩:=a
 have hsp:0<len->asp=none:=fun h0=>by
  have h3:=(hC 0 (by omega)).2.1 0 hk;rw[Nat.zero_mul]at h3;simpa[Addr.add]using World.cell?_spot h3
 refine⟨some ⟨ab,ao,asp⟩,len,m,ab,ao,C,D,rfl,⟨fun h0=>by rw[hsp h0],hl,hm,by omega,fun h0=>?_⟩,fun i hi=>⟨(hC i (by omega)).1,fun c hcl=>?_,⟨n,Pl i,(hC i (by omega)).2.2⟩,fun k hk=>hw k (qU _ (qZ _ (r6 (List.mem_map.2 ⟨i,List.mem_range.2 hi,rfl⟩) k hk)))⟩⟩
 ·have h3:=(hC 0 (by omega)).2.1 0 hk
  have:=World.block_lt_of_cell? _ _ h3;simpa[Addr.add]using this
 have h3:=(hC i (by omega)).2.1 c hcl;have h4:=hsp (by omega);subst h4;rw[q0p,q0p]at h3;exact h3
end
end Go.Cm
namespace Go.Cm
open Go.RowKit Go.Proofs
abbrev cX:=List UInt8
def bys(s:ByteArray):cX:=s.data.toList
theorem aP(s:ByteArray):(bys s).length=s.size:=by simp[bys]
theorem e6{P:Program}(T:TypeId)(hT:P.underlying T=some .string){s:ByteArray}{i:Nat}(h:i<s.size)(W:World):(Instr.index T (.string s) (.int .i64 i)).run P W=.ok (.int .u8 (((bys s).getD i 0).toNat:Nat)) W:=by
 rw[run_index_string W T s .i64 i hT,dif_pos ⟨by omega,by omega⟩]
 have:(bys s).getD i 0=s[i]:=by
  have hl:i<(bys s).length:=by rw[aP];exact h
  rw[qq,qv hl]
  rfl
 rw[this]
 rfl
theorem kI{a b:UInt8}(h:a≠b):((a.toNat:Int)==(b.toNat:Int))=false:=by
 have:a.toNat≠b.toNat:=fun e=>h (UInt8.toNat_inj.1 e);have h2:(a.toNat:Int)≠(b.toNat:Int):=by omega
 simpa using h2
end Go.Cm
namespace Go.Cm
structure PS where
 p:Nat
 e:Nat
 b:Nat
def bI(z:PS):PS:=⟨z.p+1,z.e,z.b⟩
def nxR(s:cX)(z:PS):Option UInt8:=if z.e=0/\z.p<s.length then some (s.getD z.p 0)else none
def bB(e a:Nat)(z:PS):PS:=if z.e=0 then⟨z.p,e,a⟩else z
def b7(s:cX)(c:UInt8)(z:PS):Bool×PS:=if nxR s z=some c then(true,bI z)else(false,z)
def kN(k:Int):Nd:=⟨k,0,0,0,0,0,0,0⟩
def wdR(x i:Nat):Nat:=x/2^(64*i)%2^64
def setN(x:Nat):Nd:=⟨1,0,wdR x 0,wdR x 1,wdR x 2,wdR x 3,0,0⟩
def dM(x:Nd)(kids:List (List Nd)):List Nd:={x with n:=kids.length}::kids.flatten
def m5(kd:Int):List (List Nd)->List Nd
 |[]=>dM (kN 2) []
 |[l]=>l
 |l=>dM (kN kd) l
def gS(a b:Nat):Nat:=(List.range 256).foldl (fun x c=>if a<=c/\c<=b then x|||2^c else x) 0
def eZ(c:UInt8):Nat:=gS c.toNat c.toNat
def mP(x:Nat):Nat:=2^256-1-x
def y8:Nat:=gS 48 57
def q8E:Nat:=eZ 95|||(y8|||(gS 97 122|||gS 65 90))
def dgR(c:UInt8):Int:=if 48<=c.toNat/\c.toNat<=57 then c.toNat-48 else if 97<=c.toNat/\c.toNat<=102 then c.toNat-97+10 else -1
def okD(c:UInt8)(base:Int):Bool:=decide (0<=dgR c)&&decide (dgR c<base)
def m6(s:cX)(z:PS):Nat×PS:=
 let c:=(nxR s z).getD 0
 if okD c 10 then
  let d:=(nxR s (bI z)).getD 0
  if okD d 10 then(10*(dgR c).toNat+(dgR d).toNat,bI (bI z))else((dgR c).toNat,bI z)
 else(0,bB 15 z.p z)
def q20(lo hi:Int):Bool:=decide (0<=lo)&&(decide (lo<=30)&&(decide (hi= -1)||(decide (lo<=hi)&&decide (hi<=30))))
def uJ(s:cX)(low:Nat)(z:PS):Int×PS:=
 let t:=b7 s 44 z
 if t.1 then(if(nxR s t.2).getD 0=125 then(-1,t.2)else((m6 s t.2).1,(m6 s t.2).2))else(low,t.2)
def pF(s:cX)(z:PS):Nd×PS:=
 let l:=m6 s (bI z)
 let h:=uJ s l.1 l.2
 let t:=b7 s 125 h.2
 let z5:=if t.1 then t.2 else bB 15 t.2.p t.2
 (⟨8,0,0,0,0,0,l.1,h.1⟩,if q20 l.1 h.1 then z5 else bB 18 z.p z5)
def yA:cX:=[92,91,93,40,41,123,125,42,43,63,124,46,45,94,47,34]
def I2:cX:=[92,91,93,40,41,123,125,42,43,63,124,46]
def X2(c:UInt8):Option Nat:=if c=100 then some y8 else if c=119 then some q8E else none
def q1G(c:UInt8):Option UInt8:=if c=110 then some 10 else if c=116 then some 9 else if c=115 then some 32 else if c∈yA then some c else none
def q1H(s:cX)(i:Nat):Option UInt8:=
 if i+2<s.length/\okD (s.getD (i+1) 0) 16=true/\okD (s.getD (i+2) 0) 16=true then some (UInt8.ofNat (16*(dgR (s.getD (i+1) 0)).toNat+(dgR (s.getD (i+2) 0)).toNat))else none
def pG(s:cX)(z:PS):(Nat×Bool)×PS:=
 match nxR s (bI z)with
 |none=>((0,false),bB 15 (z.p+1) (bI z))
 |some c=>
  match X2 c with
  |some a=>((a,true),bI (bI z))
  |none=>
   match q1G c with
   |some b=>((eZ b,false),bI (bI z))
   |none=>
    if c=120 then
     match q1H s (z.p+1)with
     |some b=>((eZ b,false),⟨z.p+4,z.e,z.b⟩)
     |none=>((0,false),bB 15 (z.p+1) (bI (bI z)))
    else((0,false),bB 15 (z.p+1) (bI (bI z)))
def eQ(s:cX)(z:PS):(Nat×Bool)×PS:=
 match nxR s z with
 |none=>((0,false),bB 15 z.p z)
 |some c=>if c=92 then pG s z else if c=45 then((0,false),bB 15 z.p z)else((eZ c,false),bI z)
def mQ(s:cX)(frm:Nat)(z:PS):Nat×PS:=
 let a:=eQ s z
 let t:=b7 s 45 a.2
 if t.1 then
  match nxR s t.2 with
  |none=>(a.1.1,bB 16 frm t.2)
  |some c=>
   if c=93 then(a.1.1,bB 15 t.2.p t.2)
   else
    let b:=eQ s t.2
    if b.2.e≠0 then(a.1.1,b.2)
    else if a.1.2||b.1.2||decide (Nat.log2 b.1.1<Nat.log2 a.1.1)then(a.1.1,bB 18 a.2.p b.2)
    else(gS (Nat.log2 a.1.1) (Nat.log2 b.1.1),b.2)
 else(a.1.1,t.2)
def nP(s:cX)(frm:Nat):Nat->Nat->PS->Nat×PS
 |0,a,z=>(a,z)
 |f+1,a,z=>
  if z.e≠0 then(a,z)
  else
   let t:=b7 s 93 z
   if t.1 then(a,t.2)
   else if s.length<=t.2.p then(a,bB 16 frm t.2)
   else nP s frm f (a|||(mQ s frm t.2).1) (mQ s frm t.2).2
def B1(s:cX)(frm:Nat)(z:PS):Nat×PS:=
 let t:=b7 s 94 z
 let r:=nP s frm (s.length+1) 0 t.2
 let a:=if t.1 then mP r.1 else r.1
 (a,if a=0 then bB 17 frm r.2 else r.2)
def yV(s:cX)(alt:PS->List Nd×PS)(z:PS):List Nd×PS:=
 let c:=(nxR s z).getD 0
 if c=92 then([setN (pG s z).1.1],(pG s z).2)
 else if c=40 then
  let l:=alt (bI z)
  let t:=b7 s 41 l.2
  (l.1,if t.1 then t.2 else bB 16 z.p t.2)
 else if c=91 then([setN (B1 s z.p (bI z)).1],(B1 s z.p (bI z)).2)
 else if c=46 then([setN (mP (eZ 10))],bI z)
 else if c∈I2 then([],bB 15 z.p z)
 else([setN (eZ c)],bI z)
def rT(s:cX):Nat->List Nd->PS->List Nd×PS
 |0,l,z=>(l,z)
 |f+1,l,z=>
  let c:=(nxR s z).getD 0
  if c=42 then rT s f (dM (kN 5) [l]) (bI z)
  else if c=43 then rT s f (dM (kN 6) [l]) (bI z)
  else if c=63 then rT s f (dM (kN 7) [l]) (bI z)
  else if c=123 then rT s f (dM (pF s z).1 [l]) (pF s z).2
  else(l,z)
def vT(s:cX)(alt:PS->List Nd×PS)(z:PS):List Nd×PS:=rT s (s.length+1) (yV s alt z).1 (yV s alt z).2
def inR(s:cX)(z:PS):Bool:=match nxR s z with|none=>false|some c=>decide (c≠124)&&decide (c≠41)
def yB(s:cX)(alt:PS->List Nd×PS):Nat->List (List Nd)->PS->List (List Nd)×PS
 |0,l,z=>(l,z)
 |f+1,l,z=>if inR s z then yB s alt f (l++[(vT s alt z).1]) (vT s alt z).2 else(l,z)
def fJ(s:cX)(alt:PS->List Nd×PS)(z:PS):List Nd×PS:=(m5 3 (yB s alt (s.length+1) [] z).1,(yB s alt (s.length+1) [] z).2)
def m7(s:cX)(alt:PS->List Nd×PS):Nat->List (List Nd)->PS->List (List Nd)×PS
 |0,l,z=>(l,z)
 |f+1,l,z=>if(b7 s 124 z).1 then m7 s alt f (l++[(fJ s alt (b7 s 124 z).2).1]) (fJ s alt (b7 s 124 z).2).2 else(l,z)
def lB(s:cX):Nat->PS->List Nd×PS
 |0,z=>([],z)
 |f+1,z=>
  let c:=fJ s (lB s f) z
  let r:=m7 s (lB s f) (s.length+1) [c.1] c.2
  (m5 4 r.1,r.2)
def iY(s:cX):List Nd×Nat×Nat:=
 if 512<s.length then([],3,512)
 else
  let r:=lB s (s.length+1) ⟨0,0,0⟩
  let z:=if(nxR s r.2).isSome then bB 15 r.2.p r.2 else r.2
  if z.e≠0 then([],z.e,z.b)else if 400<r.1.length then([],3,0)else(r.1,0,0)
structure Stp(s:cX)(z z':PS):Prop where
 le:z.p<=z'.p
 len:z.p<=s.length->z'.p<=s.length
 er:z.e≠0->z'=z
 cod:z.e<=18->z'.e<=18
 bd:z.b<=s.length->z.p<=s.length->z'.b<=s.length
theorem Stp.refl(s:cX)(z:PS):Stp s z z:=⟨qb _,id,fun _=>rfl,id,fun h _=>h⟩
theorem Stp.trans{s:cX}{a b c:PS}(h:Stp s a b)(k:Stp s b c):Stp s a c:=
 ⟨qc h.le k.le,fun x=>k.len (h.len x),fun x=>by have e:=h.er x;subst e;exact k.er x,fun x=>k.cod (h.cod x),fun x y=>k.bd (h.bd x y) (h.len y)⟩
theorem dE{s:cX}{z:PS}{c:UInt8}(h:nxR s z=some c):z.e=0/\z.p<s.length/\s.getD z.p 0=c:=by
 unfold nxR at h;split at h
 ·rename_i g;exact⟨g.1,g.2,by simpa using h⟩
 cases h
theorem P6{s:cX}{z:PS}(h:z.e≠0):nxR s z=none:=by
 unfold nxR;rw[qr (fun g=>h g.1)]
theorem r9{s:cX}{z:PS}{c:UInt8}(h:(nxR s z).getD 0=c)(hc:c≠0):nxR s z=some c:=by
 cases hn:nxR s z with
 |none=>rw[hn]at h;exact absurd h.symm hc
 |some d=>rw[hn]at h;exact qW some h
theorem iF{s:cX}{z:PS}{c:UInt8}(h:nxR s z=some c):Stp s z (bI z):=by
 obtain⟨h0,h1,-⟩:=dE h;exact⟨ja _,fun _=>h1,fun g=>absurd h0 g,id,fun h _=>h⟩
theorem fG(s:cX){e a:Nat}(he:e<=18)(ha:a<=s.length)(z:PS):Stp s z (bB e a z):=by
 unfold bB;split
 ·rename_i h0;exact⟨qb _,id,fun g=>absurd h0 g,fun _=>he,fun _ _=>ha⟩
 exact Stp.refl s z
theorem cH{e a:Nat}(z:PS)(he:e≠0):(bB e a z).e≠0:=by
 unfold bB;split
 ·exact he
 assumption
theorem uK{e a:Nat}{z:PS}(h:z.e≠0):bB e a z=z:=by unfold bB;rw[qr h]
theorem eC{e a:Nat}(z:PS):(bB e a z).p=z.p:=by unfold bB;split<;>rfl
theorem eR(s:cX)(c:UInt8)(z:PS):Stp s z (b7 s c z).2:=by
 unfold b7;split
 ·rename_i h;exact iF h
 exact Stp.refl s z
theorem nC{s:cX}{c:UInt8}{z:PS}(h:z.e≠0):b7 s c z=(false,z):=by
 unfold b7;rw[P6 h];rfl
theorem sV{s:cX}{c:UInt8}{z:PS}(h:(b7 s c z).1=true):nxR s z=some c/\(b7 s c z).2=bI z:=by
 unfold b7 at h⊢;split
 ·rename_i g;exact⟨g,rfl⟩
 rename_i g;rw[qr g]at h;cases h
theorem uL{s:cX}{c:UInt8}{z:PS}(h:(b7 s c z).1=false):(b7 s c z).2=z:=by
 unfold b7 at h⊢;split
 ·rename_i g;rw[qt g]at h;cases h
 rfl
theorem q0B(b:Int):okD 0 b=false:=by
 unfold okD dgR;simp
theorem q5e{s:cX}{z:PS}{b:Int}(h:okD ((nxR s z).getD 0) b=true):∃c,nxR s z=some c/\okD c b=true:=by
 cases hn:nxR s z with
 |none=>rw[hn]at h;exact absurd h (by rw[show(none:Option UInt8).getD 0=0 from rfl,q0B];decide)
 |some c=>rw[hn]at h;exact⟨c,rfl,h⟩
theorem q3f{s:cX}{a z:PS}(h:Stp s a z){e:Nat}(he:e<=18)(ha:a.p<=s.length):Stp s a (bB e z.p z):=h.trans (fG s he (h.len ha) z)
theorem X3{s:cX}{z:PS}(hz:z.p<=s.length):Stp s z (m6 s z).2:=by
 unfold m6;simp only;split
 ·rename_i h
  obtain⟨c,hc,-⟩:=q5e h;split
  ·rename_i h2
   obtain⟨d,hd,-⟩:=q5e h2;exact(iF hc).trans (iF hd)
  exact iF hc
 exact fG s (by decide) hz z
theorem q0C{s:cX}(low:Nat){z:PS}(hz:z.p<=s.length):Stp s z (uJ s low z).2:=by
 unfold uJ;have ht:=eR s 44 z;simp only;split
 ·split
  ·exact ht
  exact ht.trans (X3 (ht.len hz))
 exact ht
theorem X4{s:cX}{z:PS}{c:UInt8}(h:nxR s z=some c):Stp s z (pF s z).2:=by
 have hz:=(dE h).2.1;have h1:=iF h;have h2:=h1.trans (X3 (h1.len (jn hz)));have h3:=h2.trans (q0C (m6 s (bI z)).1 (h2.len (jn hz)));have h4:=h3.trans (eR s 125 _)
 have h5:Stp s z (if(b7 s 125 (uJ s (m6 s (bI z)).1 (m6 s (bI z)).2).2).1 then(b7 s 125 (uJ s (m6 s (bI z)).1 (m6 s (bI z)).2).2).2 else bB 15 (b7 s 125 (uJ s (m6 s (bI z)).1 (m6 s (bI z)).2).2).2.p (b7 s 125 (uJ s (m6 s (bI z)).1 (m6 s (bI z)).2).2).2):=by
  split
  ·exact h4
  exact q3f h4 (by decide) (jn hz)
 unfold pF;simp only;split
 ·exact h5
 exact h5.trans (fG s (by decide) (jn hz) _)
theorem q3g{s:cX}{z:PS}{c:UInt8}(h:nxR s z=some c):z.p<(pF s z).2.p:=by
 have hz:=(dE h).2.1;have h1:=iF h;have hz1:=h1.len (jn hz);have h2:=X3 (s:=s) hz1;have h3:=h2.trans (q0C (m6 s (bI z)).1 (h2.len hz1));have h4:=(h3.trans (eR s 125 _)).le;have:(bI z).p=z.p+1:=rfl;unfold pF;simp only
 have h5:z.p+1<=(if(b7 s 125 (uJ s (m6 s (bI z)).1 (m6 s (bI z)).2).2).1 then(b7 s 125 (uJ s (m6 s (bI z)).1 (m6 s (bI z)).2).2).2 else bB 15 (b7 s 125 (uJ s (m6 s (bI z)).1 (m6 s (bI z)).2).2).2.p (b7 s 125 (uJ s (m6 s (bI z)).1 (m6 s (bI z)).2).2).2).p:=by
  split
  ·omega
  rw[eC];omega
 split
 ·exact h5
 rw[eC];exact h5
theorem uM{s:cX}{z:PS}{c:UInt8}(h:nxR s z=some c):Stp s z (pG s z).2/\z.p<(pG s z).2.p:=by
 have hz:=(dE h).2.1;have h0:=(dE h).1;have h1:=iF h;unfold pG;cases hn:nxR s (bI z)with
 |none=>exact⟨h1.trans (fG s (by decide) hz _),by simp only[eC];exact qR _⟩
 |some d=>
  have h2:=h1.trans (iF hn);have hl:z.p<(bI (bI z)).p:=by show z.p<z.p+1+1;omega
  simp only;cases X2 d with
  |some a=>exact⟨h2,hl⟩
  |none=>
   simp only;cases q1G d with
   |some a=>exact⟨h2,hl⟩
   |none=>
    simp only;split
    ·cases hx:q1H s (z.p+1)with
     |some b=>
      have hlt:z.p+1+2<s.length:=by
       unfold q1H at hx;split at hx
       ·rename_i g;exact g.1
       cases hx
      exact⟨⟨by show z.p<=z.p+4;omega,fun _=>by show z.p+4<=s.length;omega,fun g=>absurd h0 g,id,fun h _=>h⟩,by show z.p<z.p+4;omega⟩
     |none=>exact⟨h2.trans (fG s (by decide) hz _),by simp only[eC];exact hl⟩
    exact⟨h2.trans (fG s (by decide) hz _),by simp only[eC];exact hl⟩
theorem I3{s:cX}{z:PS}(hz:z.p<=s.length):Stp s z (eQ s z).2:=by
 unfold eQ;cases hn:nxR s z with
 |none=>exact fG s (by decide) hz z
 |some c=>
  simp only;split
  ·exact(uM hn).1
  split
  ·exact fG s (by decide) hz z
  exact iF hn
theorem X5{s:cX}{frm:Nat}(hf:frm<=s.length){z:PS}(hz:z.p<=s.length):Stp s z (mQ s frm z).2:=by
 have h1:=I3 (s:=s) hz;have h2:=h1.trans (eR s 45 _);unfold mQ;simp only;split
 ·cases hn:nxR s (b7 s 45 (eQ s z).2).2 with
  |none=>exact h2.trans (fG s (by decide) hf _)
  |some c=>
   simp only;split
   ·exact q3f h2 (by decide) hz
   have h3:=h2.trans (I3 (s:=s) (h2.len hz));split
   ·exact h3
   split
   ·exact h3.trans (fG s (by decide) (h1.len hz) _)
   exact h3
 exact h2
theorem q67{s:cX}{frm:Nat}{z:PS}(hz:z.p<s.length):(mQ s frm z).2.e≠0\/z.p<(mQ s frm z).2.p:=by
 have hc:(eQ s z).2.e≠0\/z.p<(eQ s z).2.p:=by
  unfold eQ;cases hn:nxR s z with
  |none=>exact .inl (cH z (by decide))
  |some c=>
   simp only;split
   ·exact .inr (uM hn).2
   split
   ·exact .inl (cH z (by decide))
   exact .inr (qR _)
 rcases hc with hc|hc
 ·left
  unfold mQ;simp only[nC hc];exact hc
 right
 have h1:=(eR s 45 (eQ s z).2).le;have hz2:=I3 (s:=s) (jn hz);have hz3:=(eR s 45 (eQ s z).2).len (hz2.len (jn hz));unfold mQ;simp only;split
 ·cases hn:nxR s (b7 s 45 (eQ s z).2).2 with
  |none=>simp only[eC];omega
  |some c=>
   simp only;have h3:=(I3 (s:=s) hz3).le;split
   ·rw[eC];omega
   split
   ·show z.p<(eQ s (b7 s 45 (eQ s z).2).2).2.p;omega
   split
   ·rw[eC];omega
   show z.p<(eQ s (b7 s 45 (eQ s z).2).2).2.p;omega
 show z.p<(b7 s 45 (eQ s z).2).2.p;omega
theorem q0D{s:cX}{frm:Nat}(hf:frm<=s.length):∀(f a:Nat) (z:PS),z.p<=s.length->Stp s z (nP s frm f a z).2
 |0,_,z,_=>Stp.refl s z
 |f+1,a,z,hz=>by
  unfold nP;split
  ·exact Stp.refl s z
  have h1:=eR s 93 z;simp only;split
  ·exact h1
  split
  ·exact h1.trans (fG s (by decide) hf _)
  have h2:=h1.trans (X5 (s:=s) hf (h1.len hz));exact h2.trans (q0D hf f _ _ (h2.len hz))
theorem q3h{s:cX}{frm:Nat}(hf:frm<=s.length){z:PS}(hz:z.p<=s.length):Stp s z (B1 s frm z).2:=by
 have h1:=eR s 94 z;have h2:=h1.trans (q0D hf (s.length+1) 0 _ (h1.len hz));unfold B1;simp only;split
 ·split
  ·exact h2.trans (fG s (by decide) hf _)
  exact h2
 split
 ·exact h2.trans (fG s (by decide) hf _)
 exact h2
end Go.Cm
namespace Go.Cm
open Go.RowKit Go.Proofs
theorem Own.whole{w:World}{B T g n:Nat}{xs:List Value}(h:Own w B T (.slice (some ⟨g,0,none⟩) n n) xs):∃A,w.heap[g]? =some (.cells A T (0,0))/\A.size=n/\A.toList=xs:=by
 have hl:=h.len;rcases h.1.2 with⟨h1,_⟩|⟨g',cap,cur,h1,_,hg,hnc,hcm,hcs,qbh⟩
 ·cases h1
 simp only[Value.slice.injEq,jz,Addr.mk.injEq,and_true]at h1;obtain⟨rfl,h2,rfl⟩:=h1;have hs:cur.size=n:=by omega
 refine⟨cur,hg,hs,?_⟩;rw[<-qbh,qC];rw[qN];omega
theorem P7{P:Program}{fn:Func}{tmps:Array Value}{w:World}{a t:Nat}{ad:Addr}{v:Value}(hf:fn.results=#[.cell a t])(ha:tmps.getD a undef=.pointer (some ad))(hl:(loadVar t ad).run P w=.ok v w):
  (results fn tmps).run P w=.ok v w:=by
 have ha':tmps[a]?.getD undef=.pointer (some ad):=by simpa using ha
 simp[results,hf,asAddr,ha',hl]
theorem bG{P:Program}{fn:Func}{tmps:Array Value}{w:World}{ds:List Deferred}{s t:Nat}{ad:Addr}{x:Value}{R:Ending->World->Prop}(hf:fn.results=#[.cell s t])(ha:tmps.getD s undef=.pointer (some ad))(hd:ds=[])
  (hl:(loadVar t ad).run P w=.ok x w) (h:R (.returned x) w):bodyPost P fn R .ret ⟨tmps,ds⟩ w:=
 bodyPost_ret (v:=x) (P7 hf ha hl) hd h
theorem pJ{P:Program}{w:World}{B T g n:Nat}{xs:List Value}(h:Own w B T (.slice (some ⟨g,0,none⟩) n n) xs)(d:TypeDesc)(hu:P.underlying T=some d)(hd:(match d with|.struct _|.array _ _=>true|_=>false)=true)(hi:(P.info? T).map (·.size)=some n):
  (loadVar T ⟨g,0,none⟩).run P w=.ok (.agg xs.toArray) w:=by
 obtain⟨A,hg,hs,hA⟩:=h.whole;have hl:=cQ (P:=P) w g 0 n T T A (0,0) d hg hu hd hi (by omega);have e:A.extract 0 (0+n)=xs.toArray:=by rw[qE,<-hs,Array.extract_size,<-hA]
 rw[e]at hl;exact hl
def Fr(g:Nat)(vb vb':Value)(w w':World):Prop:=(∀k,k<w.heap.size->k≠g->vb.ownBlock≠some k->w'.heap[k]? =w.heap[k]?)/\(∀k,vb'.ownBlock=some k->vb.ownBlock=some k\/w.heap.size<=k)/\w.heap.size<=w'.heap.size
theorem Fr.refl(g:Nat)(vb:Value)(w:World):Fr g vb vb w w:=⟨fun _ _ _ _=>rfl,fun _ h=>.inl h,qb _⟩
theorem Fr.step{g:Nat}{vb vb':Value}{w w1 w2:World}{row:Option Nat}(h:Fr g vb vb' w w1)(hg:w1.grownBy w2 row)(hr:∀k,row=some k->k=g\/vb'.ownBlock=some k):Fr g vb vb' w w2:=by
 refine⟨fun k hk h1 h2=>?_,h.2.1,qc h.2.2 hg.size⟩;rw[hg.block k (qe hk h.2.2) ?_,h.1 k hk h1 h2];intro e;rcases hr k e.symm with q|q
 ·exact h1 q
 rcases h.2.1 k q with z|z
 ·exact h2 z
 omega
theorem Fr.below{g:Nat}{vb vb':Value}{w w1 w2:World}(h:Fr g vb vb' w w1)(hb:Below w1.heap.size w1 w2):Fr g vb vb' w w2:=h.step (row:=none) (aE hb none) (fun k e=>by cases e)
theorem Fr.val{g:Nat}{vb vb' vc:Value}{w w1:World}{n:Nat}(h:Fr g vb vb' w w1)(hk:∀k,vc.ownBlock=some k->vb'.ownBlock=some k\/n<=k)(hn:w.heap.size<=n):Fr g vb vc w w1:=by
 refine⟨h.1,fun k hk'=>?_,h.2.2⟩;rcases hk k hk' with q|q
 ·exact h.2.1 k q
 exact .inr (by omega)
theorem Fr.trans{g:Nat}{vb vb' vc:Value}{w w1 w2:World}(h:Fr g vb vb' w w1)(k:Fr g vb' vc w1 w2):Fr g vb vc w w2:=by
 refine⟨fun q hq h1 h2=>?_,fun q hq=>?_,qc h.2.2 k.2.2⟩
 ·rw[k.1 q (qe hq h.2.2) h1 ?_,h.1 q hq h1 h2]
  intro e;rcases h.2.1 q e with z|z
  ·exact h2 z
  omega
 rcases k.2.1 q hq with z|z
 ·exact h.2.1 q z
 exact .inr (qc h.2.2 z)
def qaW(N p n:Nat):Nat:=N/2^p%2^n
end Go.Cm
namespace Go.Cm
def q7v:Nat->Nat->List UInt8
 |0,_=>[]
 |f+1,n=>if n<10 then [UInt8.ofNat (48+n)]else q7v f (n/10)++[UInt8.ofNat (48+n%10)]
def Q6(n:Nat):List UInt8:=q7v (n+1) n
theorem q3G:∀f g n,n<f->n<g->q7v f n=q7v g n
 |0,_,_,h,_=>absurd h (qz _)
 |_,0,_,_,h=>absurd h (qz _)
 |f+1,g+1,n,hf,hg=>by
  unfold q7v;by_cases h:n<10
  ·rw[qt h,qt h]
  rw[qr h,qr h,q3G f g (n/10) (by omega) (by omega)]
theorem pK{n:Nat}(h:n<10):Q6 n=[UInt8.ofNat (48+n)]:=by unfold Q6 q7v;rw[qt h]
theorem wK{n:Nat}(h:¬n<10):Q6 n=Q6 (n/10)++[UInt8.ofNat (48+n%10)]:=by
 conv=>lhs;unfold Q6 q7v
 rw[qr h,q3G n (n/10+1) (n/10) (by omega) (by omega)];rfl
theorem t0:∀(k n:Nat),n<10^k->(Q6 n).length<=max k 1
 |0,n,h=>by
  have:n<10:=by simp at h;omega
  rw[pK this];simp
 |k+1,n,h=>by
  by_cases h1:n<10
  ·rw[pK h1,qB];omega
  rw[wK h1,qi];have:=t0 k (n/10) (by rw[Nat.pow_succ]at h;omega)
  have h2:1<=k:=by
   rcases jD k with rfl|h2
   ·simp at h;omega
   exact h2
  simp only[qx,qK];omega
theorem q5q(n:Nat):1<=(Q6 n).length:=by
 by_cases h:n<10
 ·rw[pK h];simp
 rw[wK h];simp
def q8Z:List (List UInt8):=
 [[111,107],[97,114,103,117,109,101,110,116],[115,104,111,114,116],[98,105,103],[102,111,114,109],[115,117,109],[115,105,122,101],[111,118,101,114],[117,110,100,101,114],[99,111,100,101],[100,105,115,116,97,110,99,101],[98,108,111,99,107],[109,97,103,105,99],[102,108,97,103,115],[109,111,114,101],[99,104,97,114],[111,112,101,110],[101,109,112,116,121],[114,97,110,103,101],[116,119,105,99,101],[110,97,109,101],[110,111,110,101],[102,117,108,108],[112,97,103,101],[111,114,100,101,114],[110,105,108],[100,105,102,102,101,114],[109,97,116,99,104]]
def nmB(k:Nat):List UInt8:=q8Z.getD k [63]
def Q7:List UInt8:=q8Z.flatMap fun l=>l++[32]
theorem q3H{k:Nat}:(nmB k).length<=8:=by
 unfold nmB;by_cases h:k<28
 ·have:∀i,i<28->(q8Z.getD i [63]).length<=8:=by decide
  exact this k h
 rw[qq,qM (by simp[q8Z];omega)];simp
def oM(k:Nat):Nat:=((q8Z.take k).flatMap fun l=>l++[32]).length
def kU(i:Nat):Nat:=((Q7.take i).filter (· ==32)).length
theorem q7w:∀i,i<155->kU i<28/\oM (kU i)<=i/\(Q7.getD i 0=32->(Q7.drop (oM (kU i))).take (i-oM (kU i))=nmB (kU i)/\kU (i+1)=kU i+1/\oM (kU i+1)=i+1)/\(Q7.getD i 0≠32->kU (i+1)=kU i):=by decide+kernel
theorem q6m:kU 155=28/\Q7.length=155:=by decide+kernel
def q1P(x:Nat×Nat):List UInt8:=nmB x.1++[32,97,116,32]++Q6 x.2
def Q8:List (Nat×Nat)->List UInt8
 |[]=>[]
 |[x]=>q1P x
 |x::y::l=>q1P x++[58,32]++Q8 (y::l)
theorem Q9(x:Nat×Nat)(h:x.2<10^19):(q1P x).length<=40:=by
 have h1:=q3H (k:=x.1);have h2:=t0 19 x.2 h;unfold q1P;simp only[qi,qx,qK];omega
theorem q0N:∀(l:List (Nat×Nat)),(∀x∈l,x.2<10^19)->(Q8 l).length<=42*l.length
 |[],_=>by simp[Q8]
 |[x],h=>by
  have:=Q9 x (h x (by simp));simp only[Q8,qx,qK];omega
 |x::y::l,h=>by
  have h1:=Q9 x (h x (by simp));have h2:=q0N (y::l) (fun z hz=>h z (qU _ hz));simp only[Q8,qi,qx,qK]at h2⊢;omega
end Go.Cm
namespace Go.Cm
open Go.RowKit Go.Proofs
structure gJ(w:World):Prop where
 et:w.cell? ⟨0,0,none⟩=some (.iface 148 (.agg #[.pointer (some ⟨7,43,none⟩)]))
 fam:∀g,g=1\/g=2\/g=3\/g=4\/g=5->∃q,w.cell? ⟨g,0,none⟩=some (.iface 192 (.pointer (some q)))
theorem gJ.lt{w:World}(h:gJ w):∀g,g=0\/g=1\/g=2\/g=3\/g=4\/g=5->g<w.heap.size:=by
 intro g hg;rcases jO g w.heap.size with h1|h1
 ·exact h1
 rcases hg with rfl|hg
 ·have:=h.et;simp[World.cell?,jr h1]at this
 obtain⟨q,hq⟩:=h.fam g hg;simp[World.cell?,jr h1]at hq
theorem gJ.up{w w':World}(h:gJ w)(hb:Below w.heap.size w w'):gJ w' where
 et:=by rw[hb.cell (p:=⟨0,0,none⟩) (h.lt _ (.inl rfl))];exact h.et
 fam g hg:=by
  obtain⟨q,hq⟩:=h.fam g hg;exact⟨q,by rw[hb.cell (p:=⟨g,0,none⟩) (h.lt _ (.inr hg))];exact hq⟩
def gK(w:World):List (Nat×Nat)->Value->Prop
 |[],v=>∃q,v=.iface 192 (.pointer (some q))
 |x::l,v=>∃p u,v=.iface 75 (.pointer (some ⟨p,0,none⟩))/\p<w.heap.size/\w.cell? ⟨p,0,none⟩=some (.int .i64 (x.1:Nat))/\w.cell? ⟨p,1,none⟩=some (.int .i64 (x.2:Nat))/\w.cell? ⟨p,2,none⟩=some u/\gK w l u
theorem gK.up{w w':World}(hb:Below w.heap.size w w'):∀{l:List (Nat×Nat)} {v:Value},gK w l v->gK w' l v
 |[],_,h=>h
 |x::l,v,⟨p,u,h1,h2,h3,h4,h5,h6⟩=>⟨p,u,h1,qe h2 hb.size,by rw[hb.cell (p:=⟨p,0,none⟩) h2];exact h3,by rw[hb.cell (p:=⟨p,1,none⟩) h2];exact h4,by rw[hb.cell (p:=⟨p,2,none⟩) h2];exact h5,gK.up hb h6⟩
def dF(w:World)(l:List (Nat×Nat))(v:Value):Prop:=if l=[]then v=.nilIface else gK w l v
def gX(w:World)(l:List (Nat×Nat))(v:Value):Prop:=∃e,v=.agg #[e]/\dF w l e
theorem dF.up{w w':World}{l:List (Nat×Nat)}{v:Value}(hb:Below w.heap.size w w')(h:dF w l v):dF w' l v:=by
 unfold dF at h⊢;split at h
 ·rename_i h0;rw[qt h0];exact h
 rename_i h0;rw[qr h0];exact h.up hb
theorem gX.up{w w':World}{l:List (Nat×Nat)}{v:Value}(hb:Below w.heap.size w w')(h:gX w l v):gX w' l v:=by
 obtain⟨e,rfl,he⟩:=h;exact⟨e,rfl,he.up hb⟩
theorem gK.one{w:World}:∀{l:List (Nat×Nat)} {v:Value},gK w l v->v.oneCell'=true
 |[],_,⟨_,h⟩=>by rw[h];rfl
 |_::_,_,⟨_,_,h,_⟩=>by rw[h];rfl
theorem dF.one{w:World}{l:List (Nat×Nat)}{v:Value}(h:dF w l v):v.oneCell'=true:=by
 unfold dF at h;split at h
 ·rw[h];rfl
 exact h.one
def Y3:Value->Value
 |.iface t (.pointer p)=>if t=75 then .pointer p else .pointer none
 |_=>.pointer none
theorem q0O(w:World):Calls prog 32 #[.nilIface] w fun e w'=>e=.returned (.pointer none)/\∃x,w'=ext w x:=by
 go_enter func32,ntmps32;go_wp2;go_ret;exact⟨rfl,(aI aJ)⟩
theorem q0P{w:World}{v:Value}(hL:gJ w)(h:gK w [] v):Calls prog 32 #[v] w fun e w'=>e=.returned (.pointer none)/\∃x,w'=ext w x:=by
 obtain⟨q,rfl⟩:=h
 have hg:(w.alloc (.cells #[.pointer none] 75)).cell? ⟨0,0,none⟩=some (.iface 148 (.agg #[.pointer (some ⟨7,43,none⟩)])):=by
  exact ZmE0
 go_enter func32,ntmps32
 go_wp2_with((with_reducible go_at_call 57);refine(q7u _ _ _ hg).mono ?_;rintro en w2 ⟨rfl,rfl⟩)
 go_ret;exact⟨rfl,(aI aJ)⟩
theorem q3I{w:World}{x:Nat×Nat}{l:List (Nat×Nat)}{v:Value}(hL:gJ w)(h:gK w (x::l) v):Calls prog 32 #[v] w fun e w'=>e=.returned (Y3 v)/\∃x,w'=ext w x:=by
 obtain⟨p,u,rfl,h1,h2,h3,h4,h5⟩:=h
 have hg:(w.alloc (.cells #[.pointer none] 75)).cell? ⟨0,0,none⟩=some (.iface 148 (.agg #[.pointer (some ⟨7,43,none⟩)])):=by
  exact ZmE0
 have ht:(w.alloc (.cells #[.pointer none] 75)).cell? ⟨w.heap.size,0,none⟩=some (.pointer none):=by simp
 have hf:(w.alloc (.cells #[.pointer none] 75)).frozen? ⟨w.heap.size,0,none⟩=false:=by simp
 have hlp:Y3 (.iface 75 (.pointer (some ⟨p,0,none⟩)))=.pointer (some ⟨p,0,none⟩):=rfl;rw[hlp];clear h1 h2 h3 h4 h5 hlp;go_enter func32,ntmps32
 go_wp2_with((with_reducible go_at_call 57);refine(q8Y _ _ (.pointer none) _ hg ht hf).mono ?_;rintro en w2 ⟨rfl,rfl⟩)
 go_ret;exact⟨rfl,(aI aJ)⟩
theorem q6n{c:Nat}(hc:c<=27)(w:World):Calls prog 83 #[.int .i64 c] w fun e w'=>e=.returned (.bool true)/\∃x,w'=ext w x:=by
 go_enter func83,ntmps83;go_wp2;go_ret;exact⟨by simp;omega,(aI aJ)⟩
theorem q3J{c:Nat}(hc:c<=27)(w:World):Calls prog 76 #[.int .i64 c] w fun e w'=>e=.returned (.int .i64 c)/\∃x,w'=ext w x:=by
 go_enter func76,ntmps76
 go_wp2_with((with_reducible go_at_call 83);refine(q6n hc _).mono ?_;rintro en w2 ⟨rfl,x2,rfl⟩)
 go_ret;exact⟨rfl,(aI aJ)⟩
theorem q7x{c:Nat}{w:World}(hL:gJ w):Calls prog 77 #[.int .i64 c] w fun e w'=>∃v,e=.returned v/\gK w [] v/\∃x,w'=ext w x:=by
 obtain⟨q1,h1⟩:=hL.fam 1 (.inl rfl);obtain⟨q2,h2⟩:=hL.fam 2 (.inr (.inl rfl));obtain⟨q3,h3⟩:=hL.fam 3 (.inr (.inr (.inl rfl)));obtain⟨q4,h4⟩:=hL.fam 4 (.inr (.inr (.inr (.inl rfl))));obtain⟨q5,h5⟩:=hL.fam 5 (.inr (.inr (.inr (.inr rfl))));go_enter func77,ntmps77;go_wp2
 all_goals
  go_ret;exact⟨_,rfl,⟨_,rfl⟩,(aI aJ)⟩
theorem dF.some{w:World}{x:Nat×Nat}{l:List (Nat×Nat)}{v:Value}(h:dF w (x::l) v):gK w (x::l) v:=by unfold dF at h;rwa [qr (by simp)]at h
theorem dF.of{w:World}{x:Nat×Nat}{l:List (Nat×Nat)}{v:Value}(h:gK w (x::l) v):dF w (x::l) v:=by unfold dF;rwa [qr (by simp)]
def dI(l:List (Nat×Nat))(w:World)(e:Ending)(w':World):Prop:=∃v,e=.returned v/\gX w' l v/\∃x,w'=ext w x
theorem R0(w:World)(x y:Value)(T:TypeId):∃w1,(w.alloc (.cells #[x] T)).alloc (.cells #[y] T)=w1/\Own w1 w.heap.size T (.slice (some ⟨w.heap.size,0,none⟩) 1 1) [x]/\Own w1 w.heap.size T (.slice (some ⟨w.heap.size+1,0,none⟩) 1 1) [y]/\Below w.heap.size w w1:=
 ⟨_,rfl,(bU w w.heap.size #[x] T (by simp) (qb _)).up (aA _ _),by
  have h:=bU (w.alloc (.cells #[x] T)) w.heap.size #[y] T (by simp) (by simp);simpa using h,kO (aA w _) _⟩
theorem rP{W:World}{n o:Nat}{c:Array Value}{t:TypeId}(h:W.heap.size=n):(W.alloc (.cells c t)).cell? ⟨n,o,none⟩=c[o]? :=by subst h;exact World.cell?_alloc_new _ _ _ _
theorem R1{w w3:World}{g6 c at_:Nat}{l:List (Nat×Nat)}{u:Value}{x0:Value}(h6:Own w3 w.heap.size 45 (.slice (some ⟨g6,0,none⟩) 1 1) [x0])(hb:Below w.heap.size w w3)(hu:∀W,(w3.setCell ⟨g6,0,none⟩ (.iface 75 (.pointer (some ⟨w3.heap.size,0,none⟩)))).heap.size<=W.heap.size->(∀k,k≠g6->k<w3.heap.size->W.heap[k]? =w3.heap[k]?)->gK W l u):
  (loadVar 45 ⟨g6,0,none⟩).run prog ((w3.setCell ⟨g6,0,none⟩ (.iface 75 (.pointer (some ⟨w3.heap.size,0,none⟩)))).alloc (.cells #[.int .i64 c,.int .i64 at_,u] 79))=.ok (.agg #[.iface 75 (.pointer (some ⟨w3.heap.size,0,none⟩))]) ((w3.setCell ⟨g6,0,none⟩ (.iface 75 (.pointer (some ⟨w3.heap.size,0,none⟩)))).alloc (.cells #[.int .i64 c,.int .i64 at_,u] 79))
  /\dI ((c,at_)::l) w (.returned (.agg #[.iface 75 (.pointer (some ⟨w3.heap.size,0,none⟩))])) ((w3.setCell ⟨g6,0,none⟩ (.iface 75 (.pointer (some ⟨w3.heap.size,0,none⟩)))).alloc (.cells #[.int .i64 c,.int .i64 at_,u] 79)):=by
 obtain⟨hs,hgr⟩:=h6.store 0 (.iface 75 (.pointer (some ⟨w3.heap.size,0,none⟩)));have hblk:=h6.blk;have hsz:(w3.setCell ⟨g6,0,none⟩ (.iface 75 (.pointer (some ⟨w3.heap.size,0,none⟩)))).heap.size=w3.heap.size:=by simp
 have hb2:Below w.heap.size w (w3.setCell ⟨g6,0,none⟩ (.iface 75 (.pointer (some ⟨w3.heap.size,0,none⟩)))):=hb.setCell hblk.1 _
 have hk:∀k,k≠g6->k<w3.heap.size->((w3.setCell ⟨g6,0,none⟩ (.iface 75 (.pointer (some ⟨w3.heap.size,0,none⟩)))).alloc (.cells #[.int .i64 c,.int .i64 at_,u] 79)).heap[k]? =w3.heap[k]? :=fun k h1 h2=>by
  rw[Below.heap_alloc _ _ _ (by rw[hsz];exact h2),hgr.block k h2 (by simpa using h1)]
 refine⟨?_,⟨_,rfl,⟨_,rfl,dF.of ⟨w3.heap.size,u,rfl,by simp,?_,?_,?_,hu _ (by simp) hk⟩⟩,aI (kO hb2 _)⟩⟩
 ·have:=pJ (P:=prog) (T:=45) (hs.up (aA _ (.cells #[.int .i64 c,.int .i64 at_,u] 79))) _ underlying45 rfl (by kernel_rfl)
  simpa using this
 ·rw[rP hsz];rfl
 ·rw[rP hsz];rfl
 rw[rP hsz];rfl
theorem q6o{c at_:Nat}{w:World}(hL:gJ w)(hc:c<=27)(hc0:c≠0):Calls prog 56 #[.int .i64 c,.int .i64 at_,.agg #[.nilIface]] w (dI [(c,at_)] w):=by
 have hne:((c:Int)==0)=false:=by simpa using hc0
 have HL:=qa hL;clear hL;go_enter func56,ntmps56
 go_upto_region 1 with(fail)
 obtain⟨w1,he,h5,h6,hb1⟩:=R0 w .nilIface .nilIface 45;rw[he];clear he;have H6:=qa h6;have H5:=qa h5;have HB:=qa hb1;clear h5 h6 hb1
 go_wp2_with(first
  |((with_reducible go_at_call 76);refine(q3J hc _).mono ?_;rintro en w2 ⟨rfl,hx⟩;have hb2:=aB hx;clear hx;have K5:=H5.o.up hb2;have K6:=H6.o.up hb2;have HL2:=qa (HL.o.up (cP HB.o hb2));have HB2:=qa (cP HB.o hb2);have c5:w2.cell? ⟨w.heap.size,0,none⟩=some .nilIface:=K5.cell (i:=0) (by simp);have H5b:=qa K5;have H6b:=qa K6;clear hb2 K5 K6)
  |((with_reducible go_at_call 77);refine(q7x HL2.o).mono ?_;rintro en w3 ⟨vf,rfl,⟨q,rfl⟩,hx⟩;have hb3:=aB hx;clear hx c5;have K6:=H6b.o.up hb3;have HB3:=qa (cP HB2.o hb3);have c6:w3.cell? ⟨w.heap.size+1,0,none⟩=some .nilIface:=K6.cell (i:=0) (by simp);have f6:w3.frozen? ⟨w.heap.size+1,0,none⟩=false:=K6.free 0;have l6:w.heap.size+1<w3.heap.size:=K6.blk.2;have H6c:=qa K6;clear hb3 K6))
 obtain⟨hl,hr⟩:=R1 (c:=c) (at_:=at_) (l:=[]) (u:=.iface 192 (.pointer (some q))) H6c.o HB3.o (fun _ _ _=>⟨q,rfl⟩);exact bG rfl rfl rfl hl hr
theorem gK.same{w w':World}(hs:w.heap.size<=w'.heap.size){w3:World}{g:Nat}(hk:∀k,k<w.heap.size->w'.heap[k]? =w.heap[k]?):∀{l:List (Nat×Nat)} {v:Value},gK w l v->gK w' l v
 |[],_,h=>h
 |x::l,v,⟨p,u,h1,h2,h3,h4,h5,h6⟩=>⟨p,u,h1,qe h2 hs,by rw[World.cell?_of_block (w:=w) (hk p h2)];exact h3,by rw[World.cell?_of_block (w:=w) (hk p h2)];exact h4,by rw[World.cell?_of_block (w:=w) (hk p h2)];exact h5,gK.same hs (w3:=w3) (g:=g) hk h6⟩
theorem q90{c at_:Nat}{w:World}{y:Nat×Nat}{l:List (Nat×Nat)}{u:Value}(hc:c<=27)(hc0:c≠0)(h:gK w (y::l) u):Calls prog 56 #[.int .i64 c,.int .i64 at_,.agg #[u]] w (dI ((c,at_)::y::l) w):=by
 have hne:((c:Int)==0)=false:=by simpa using hc0
 have HE:=qa h;obtain⟨p,-,rfl,-⟩:=h;go_enter func56,ntmps56
 go_upto_region 1 with(fail)
 obtain⟨w1,he,h5,h6,hb1⟩:=R0 w (.iface 75 (.pointer (some ⟨p,0,none⟩))) .nilIface 45;rw[he];clear he;have H6:=qa h6;have H5:=qa h5;have HB:=qa hb1;clear h5 h6 hb1
 go_wp2_with((with_reducible go_at_call 76);refine(q3J hc _).mono ?_;rintro en w2 ⟨rfl,hx⟩;have hb2:=aB hx;clear hx;have K5:=H5.o.up hb2;have K6:=H6.o.up hb2;have HB2:=qa (cP HB.o hb2);have c5:w2.cell? ⟨w.heap.size,0,none⟩=some (.iface 75 (.pointer (some ⟨p,0,none⟩))):=K5.cell (i:=0) (by simp);have c6:w2.cell? ⟨w.heap.size+1,0,none⟩=some .nilIface:=K6.cell (i:=0) (by simp);have f6:w2.frozen? ⟨w.heap.size+1,0,none⟩=false:=K6.free 0;have l6:w.heap.size+1<w2.heap.size:=K6.blk.2;have H6b:=qa K6;clear hb2 K5 K6)
 obtain⟨hl,hr⟩:=R1 (c:=c) (at_:=at_) (l:=y::l) (u:=.iface 75 (.pointer (some ⟨p,0,none⟩))) H6b.o HB2.o (fun W h1 h2=>gK.same (by have:=HB2.o.size;simp at h1;omega) (w3:=w) (g:=0) (fun k hk=>by rw[h2 k (by omega) (qe hk HB2.o.size),HB2.o.block k hk]) HE.o);exact bG rfl rfl rfl hl hr
theorem q91{c at_:Nat}{w:World}{l:List (Nat×Nat)}{v:Value}(hL:gJ w)(hc:c<=27)(hc0:c≠0)(h:gX w l v):Calls prog 56 #[.int .i64 c,.int .i64 at_,v] w (dI ((c,at_)::l) w):=by
 obtain⟨e,rfl,he⟩:=h;cases l with
 |nil=>
  have:e=.nilIface:=by unfold dF at he;rwa [qt rfl]at he
  subst this;exact q6o hL hc hc0
 |cons y l=>exact q90 hc hc0 he.some
theorem qaB{c at_:Nat}{w:World}(hL:gJ w)(hc:c<=27)(hc0:c≠0):Calls prog 28 #[.int .i64 c,.int .i64 at_] w (dI [(c,at_)] w):=by
 have HL:=qa (hL.up (aA w (.cells #[.nilIface] 45)));clear hL;go_enter func28,ntmps28
 go_upto_region 1 with(fail)
 have h4:=bU w w.heap.size #[.nilIface] 45 (by simp) (qb _);have H4:=qa h4;have HB:=qa (aA w (.cells #[.nilIface] 45));clear h4;generalize w.alloc (.cells #[.nilIface] 45)=w1 at*
 go_wp2_with((with_reducible go_at_call 56);refine(q6o HL.o hc hc0).mono ?_;rintro en w2 ⟨v,rfl,⟨e,rfl,he⟩,hx⟩;have hb2:=aB hx;clear hx;have hc1:=he.some;have K4:=H4.o.up hb2;have HB2:=qa (cP HB.o hb2);have c4:w2.cell? ⟨w.heap.size,0,none⟩=some .nilIface:=K4.cell (i:=0) (by simp);have f4:w2.frozen? ⟨w.heap.size,0,none⟩=false:=K4.free 0;obtain⟨p,u,rfl,-⟩:=id hc1;have H4b:=qa K4;have HC:=qa hc1;have HB3:=qa hb2;clear hb2 K4 he hc1)
 have hs:=(H4b.o.store 0 (.iface 75 (.pointer (some ⟨p,0,none⟩)))).1;have hb4:Below w.heap.size w (w2.setCell ⟨w.heap.size,0,none⟩ (.iface 75 (.pointer (some ⟨p,0,none⟩)))):=HB2.o.setCell (qb _) _;obtain⟨p',q,e1,h1,h2,h3,h4,⟨q',rfl⟩⟩:=HC.o;cases e1
 have qiC:p≠w.heap.size:=by
  rintro rfl;have:=h2.symm.trans (H4b.o.cell (i:=0) (by simp));simp at this
 have hkk:∀o,(w2.setCell ⟨w.heap.size,0,none⟩ (.iface 75 (.pointer (some ⟨p,0,none⟩)))).cell? ⟨p,o,none⟩=w2.cell? ⟨p,o,none⟩:=fun o=>World.cell?_of_block (w:=w2) (Below.heap_setCell _ _ _ _ qiC);refine bG rfl rfl rfl (x:=.agg #[.iface 75 (.pointer (some ⟨p,0,none⟩))]) ?_ ⟨_,rfl,⟨_,rfl,dF.of ⟨p,_,rfl,by simpa using h1,by rw[hkk];exact h2,by rw[hkk];exact h3,by rw[hkk];exact h4,⟨_,rfl⟩⟩⟩,aI hb4⟩;simpa using pJ (P:=prog) (T:=45) hs _ underlying45 rfl (by kernel_rfl)
theorem J6{w:World}{p:Nat}{x:Nat×Nat}{l:List (Nat×Nat)}(hL:gJ w)(h:gK w (x::l) (.iface 75 (.pointer (some ⟨p,0,none⟩)))):Calls prog 32 #[.iface 75 (.pointer (some ⟨p,0,none⟩))] w fun e w'=>e=.returned (.pointer (some ⟨p,0,none⟩))/\∃x,w'=ext w x:=q3I hL h
theorem gX.nil{w:World}{v:Value}(h:gX w [] v):v=.agg #[.nilIface]:=by
 obtain⟨e,rfl,he⟩:=h;unfold dF at he;rw[qt rfl]at he;rw[he]
theorem q7y{w:World}{g k:Nat}{p:Value}(hc:w.cell? ⟨g,0,none⟩=some (.int .i64 k))(hf:w.frozen? ⟨g,0,none⟩=false)(hk:k<=1000000):Calls prog 31 #[p,.pointer (some ⟨g,0,none⟩)] w fun e w'=>e=.returned (.tuple #[])/\w'=w.setCell ⟨g,0,none⟩ (.int .i64 ((k:Int)+1)):=by
 go_enter func31,ntmps31;go_wp2
 go_end0
 exact⟨rfl,rfl⟩
theorem R3{w:World}{u:Value}(h:gK w [] u):Y3 u=.pointer none:=by obtain⟨q,rfl⟩:=h;simp[Y3]
theorem qa5{w0 w:World}{l:List (Nat×Nat)}{v:Value}{g:Nat}(hL:gJ w0)(h:gX w0 l v)(hb:Below w0.heap.size w0 w)(ho:Own w w0.heap.size 3 (.slice (some ⟨g,0,none⟩) 1 1) [.int .i64 0])(hl:l.length<=100000):
  Calls prog 30 #[v,.func (Fn.func 31) #[] #[.pointer (some ⟨g,0,none⟩)]] w fun e w'=>e=.returned (.tuple #[])/\Below w0.heap.size w0 w'/\Own w' w0.heap.size 3 (.slice (some ⟨g,0,none⟩) 1 1) [.int .i64 (l.length:Nat)]:=by
 obtain⟨e,rfl,he⟩:=h;have HL:=qa hL;have HB0:=qa hb;have HO0:=qa ho
 have qct:(l=[]/\e=.nilIface)\/(l≠[]/\gK w0 l e/\∃q,e=.iface 75 (.pointer (some ⟨q,0,none⟩))):=by
  cases l with
  |nil=>exact .inl ⟨rfl,by unfold dF at he;rwa [qt rfl]at he⟩
  |cons y l=>obtain⟨p,u,h1,-⟩:=id he.some;exact .inr ⟨by simp,he.some,_,h1⟩
 obtain⟨K,hK⟩:∃K,K=l.length:=⟨_,rfl⟩;have HK:=qa hK;rw[<-hK]at hl⊢;clear he hL hb ho hK;go_enter func30,ntmps30;rcases qct with⟨rfl,rfl⟩|⟨hne,hc,q,rfl⟩
 ·have hz:K=0:=HK.o
  subst hz
  go_wp2_with((with_reducible go_at_call 32);refine(q0O _).mono ?_;rintro en w2 ⟨rfl,x2,rfl⟩)
  refine wp_loop_rounds 1 ?_;rw[rounds_succ];go_wp2
  go_end0
  have hbz:=kK (aA w (.cells #[.nilIface] 45)) x2;exact⟨rfl,cP HB0.o hbz,HO0.o.up hbz⟩
 have hlp:Y3 (.iface 75 (.pointer (some ⟨q,0,none⟩)))=.pointer (some ⟨q,0,none⟩):=rfl;obtain⟨y,l2,rfl⟩:∃y l2,l=y::l2:=by cases l with|nil=>exact absurd rfl hne|cons y l2=>exact⟨y,l2,rfl⟩
 have HC:=qa hc;clear hc hne
 go_wp2_with((with_reducible go_at_call 32);(refine(J6 (HL.o.up (HB0.o.trans ((aA _ _).mono HB0.o.size))) (HC.o.up (HB0.o.trans ((aA _ _).mono HB0.o.size)))).mono ?_);rintro en w2 ⟨rfl,x2,hw2⟩;have hb2:Below w.heap.size w w2:=(by rw[hw2];exact kK (aA _ _) _);clear hw2;have HB2:=qa (HB0.o.trans (hb2.mono HB0.o.size));have HO2:=qa (HO0.o.up hb2);clear hb2)
 clear hlp
 go_loopg [4] K (fun gk nv wr=>∃(l':List (Nat×Nat)) (u:Value) (k':Nat),nv=Y3 u/\Hid (gK w0 l' u)/\Hid (Below w0.heap.size w0 wr)/\Hid (Own wr w0.heap.size 3 (.slice (some ⟨g,0,none⟩) 1 1) [.int .i64 (k':Nat)])/\k'+l'.length=K/\gk=l'.length)
 case atStart=>exact⟨_,_,0,rfl,HC,HB2,HO2,by rw[HK.o];simp,HK.o⟩
 case round=>
  obtain⟨l',u,k',rfl,HC2,HBr,HOr,qbR,rfl⟩:=hrel;cases l' with
  |nil=>
   have hz:k'=K:=by simpa using qbR
   subst hz;rw[R3 HC2.o];go_wp2
   go_end0
   exact⟨rfl,HBr.o,HOr.o⟩
  |cons x l3=>
   obtain⟨p,u2,rfl,h1,h2,h3,h4,h5⟩:=HC2.o;have hlp:Y3 (.iface 75 (.pointer (some ⟨p,0,none⟩)))=.pointer (some ⟨p,0,none⟩):=rfl;rw[hlp];clear hlp;have c0:wr.cell? ⟨g,0,none⟩=some (.int .i64 (k':Nat)):=HOr.o.cell (i:=0) (by simp);have f0:wr.frozen? ⟨g,0,none⟩=false:=HOr.o.free 0;obtain⟨ho,hgr⟩:=HOr.o.store 0 (.int .i64 ((k':Int)+1));have hb3:Below w0.heap.size w0 (wr.setCell ⟨g,0,none⟩ (.int .i64 ((k':Int)+1))):=HBr.o.setCell (HOr.o.blk.1) _;have hk':k'<=1000000:=by simp only[qx]at qbR;omega
   have c2:(wr.setCell ⟨g,0,none⟩ (.int .i64 ((k':Int)+1))).cell? ⟨p,2,none⟩=some u2:=by rw[hb3.cell (p:=⟨p,2,none⟩) h1];exact h4
   have hd:=q7y (p:=.pointer (some ⟨p,0,none⟩)) c0 f0 hk';have hm:Hid (k'+1+l3.length=K):=qa (by simp only[qx]at qbR;omega);have e1:((k':Int)+1)=((k'+1:Nat):Int):=by omega
   simp only[List.set_cons_zero]at ho;rw[e1]at ho hb3 c2 hd;generalize wr.setCell ⟨g,0,none⟩ (.int .i64 ((k'+1:Nat):Int))=w5 at*;have HO5:=qa ho;have HB5:=qa hb3;have HC5:=qa (h5.up hb3);clear ho hb3 hgr HOr h2 h3 h4 e1 hk' HC2;have HD:=qa hd;have H5:=qa h5;clear hd h5;cases l3 with
   |nil=>
    go_wp2_with(first
     |((with_reducible go_at_call 31);refine HD.o.mono ?_;rintro en w6 ⟨rfl,hw6⟩;rw[hw6];clear hw6)
     |((with_reducible go_at_call 32);refine(q0P (HL.o.up HB5.o) HC5.o).mono ?_;rintro en w6 ⟨rfl,x2,hw2⟩;have hb6:Below w5.heap.size w5 w6:=(by rw[hw2];exact aD _ _);clear hw2;have HB6:=qa (HB5.o.trans (hb6.mono HB5.o.size));have HO6:=qa (HO5.o.up hb6);clear hb6))
    go_roundg 0
    case measure=>simp
    case rel=>exact⟨[],u2,k'+1,(R3 HC5.o).symm,H5,HB6,HO6,hm.out,rfl⟩
   |cons z l4=>
    obtain⟨p2,u3,rfl,-⟩:=id H5.o
    go_wp2_with(first
     |((with_reducible go_at_call 31);refine HD.o.mono ?_;rintro en w6 ⟨rfl,hw6⟩;rw[hw6];clear hw6)
     |((with_reducible go_at_call 32);refine(J6 (HL.o.up HB5.o) HC5.o).mono ?_;rintro en w6 ⟨rfl,x2,hw2⟩;have hb6:Below w5.heap.size w5 w6:=(by rw[hw2];exact aD _ _);clear hw2;have HB6:=qa (HB5.o.trans (hb6.mono HB5.o.size));have HO6:=qa (HO5.o.up hb6);clear hb6))
    go_roundg (l4.length+1)
    case measure=>simp
    case rel=>exact⟨z::l4,_,k'+1,rfl,H5,HB6,HO6,hm.out,rfl⟩
theorem q5r{w:World}{l:List (Nat×Nat)}{v:Value}(hL:gJ w)(h:gX w l v)(hl:l.length<=100000):Calls prog 13 #[v] w fun e w'=>e=.returned (.int .i64 (l.length:Nat))/\∃x,w'=ext w x:=by
 have hbl:=h;obtain⟨e,rfl,he⟩:=h;have h4:=bU (w.alloc (.cells #[e] 45)) w.heap.size #[.int .i64 0] 3 (by simp) (by simp);have hsz:(w.alloc (.cells #[e] 45)).heap.size=w.heap.size+1:=by simp
 rw[hsz]at h4;have HC:=qa5 hL hbl (kO (aA w (.cells #[e] 45)) (.cells #[.int .i64 0] 3)) h4 hl;clear hbl he h4 hsz hL;go_enter func13,ntmps13
 go_wp2_with((with_reducible go_at_call 30);refine HC.mono ?_;rintro en w2 ⟨rfl,hb2,ho2⟩;have c1:w2.cell? ⟨w.heap.size+1,0,none⟩=some (.int .i64 (l.length:Nat)):=ho2.cell (i:=0) (by simp))
 go_ret;exact⟨rfl,aI hb2⟩
theorem J7(x y:cX):(⟨x.toArray⟩:ByteArray)++⟨y.toArray⟩=⟨(x++y).toArray⟩:=by
 have h:((⟨x.toArray⟩:ByteArray)++⟨y.toArray⟩).data=(x++y).toArray:=by simp
 cases hz:((⟨x.toArray⟩:ByteArray)++⟨y.toArray⟩)with
 |mk d=>rw[hz]at h;simp only at h;rw[h]
theorem q3K{P:Program}(x y:cX)(hb:x.length+y.length<=9223372036854775807)(w:World):(Op.stringOp .add ⟨x.toArray⟩ ⟨y.toArray⟩).run P w=.ok (.string ⟨(x++y).toArray⟩) w:=by
 rw[run_string_add_sum _ _ _ (by simpa[ByteArray.size]using hb),J7]
theorem R4{P:Program}{C:World->Prop}{o:Oper}{a:Act}{K:Act->Prop}(x y:Operand)(T R:TypeId)(ho:o.op=.binOp .add T x y R)(l m:cX)(hx:a.eval x=.string ⟨l.toArray⟩)(hy:a.eval y=.string ⟨m.toArray⟩)
  (hb:l.length+m.length<=9223372036854775807) (h:K (a.put o.dst (.string ⟨(l++m).toArray⟩))):o.quiet P a C K:=by
 refine⟨.string ⟨(l++m).toArray⟩,fun w' _=>?_,h⟩;have hr:=q3K (P:=P) l m hb w';unfold Oper.quietAt execOp;simp only[ho,Sem.run_bind,Sem.run_pure,Result.andThen_ok,hx,hy,eqGuard,binOp,Bool.not_false,jG,hr,Oper.quietUpon];exact⟨trivial,trivial⟩
theorem gK.if2{w:World}:∀{l:List (Nat×Nat)} {v:Value},gK w l v->∃t u,v=.iface t u
 |[],_,⟨_,h⟩=>⟨_,_,h⟩
 |_::_,_,⟨_,_,h,_⟩=>⟨_,_,h⟩
theorem gK.keep{w w':World}{g:Nat}(hg:w.grownBy w' (some g))(h2:∀t u,w.cell? ⟨g,2,none⟩≠some (.iface t u)):∀{l:List (Nat×Nat)} {v:Value},gK w l v->gK w' l v
 |[],_,h=>h
 |x::l,v,⟨p,u,h1,hp,h3,h4,h5,h6⟩=>by
  have hne:p≠g:=by
   rintro rfl;obtain⟨t,u',rfl⟩:=h6.if2;exact h2 t u' h5
  have hb:=hg.block p hp (by intro e;cases e;exact hne rfl);exact⟨p,u,h1,qe hp hg.size,by rw[World.cell?_of_block hb];exact h3,by rw[World.cell?_of_block hb];exact h4,by rw[World.cell?_of_block hb];exact h5,gK.keep hg h2 h6⟩
theorem t6{w w':World}{g:Nat}{l:List (Nat×Nat)}{v:Value}(hg:w.grownBy w' (some g))(h2:∀t u,w.cell? ⟨g,2,none⟩≠some (.iface t u))(h:dF w l v):dF w' l v:=by
 unfold dF at h⊢;split at h
 ·rename_i h0;rw[qt h0];exact h
 rename_i h0;rw[qr h0];exact h.keep hg h2
theorem rQ{w:World}{B g T:Nat}{v:Value}(h:Own w B T (.slice (some ⟨g,0,none⟩) 1 1) [v]):∀t u,w.cell? ⟨g,2,none⟩≠some (.iface t u):=by
 intro t u e;obtain⟨A,hgA,hsA,hA⟩:=h.whole;have hz:A.size=1:=by rw[<-qN,hA];rfl
 unfold World.cell? at e;simp only[hgA]at e;simp[hz]at e
theorem t9{fn:Func}{tmps:Array Value}{ds:List Deferred}{w0 w w':World}{s g B:Nat}{e:Value}{l:List (Nat×Nat)}(hf:fn.results=#[.cell s 45])(ha:tmps.getD s undef=.pointer (some ⟨g,0,none⟩))(hd:ds=[])
  (ho:Own w' B 45 (.slice (some ⟨g,0,none⟩) 1 1) [e]) (hb:Below w0.heap.size w0 w) (hg:w.grownBy w' (some g)) (hge:w0.heap.size<=g) (h2:∀t u,w.cell? ⟨g,2,none⟩≠some (.iface t u)) (he:dF w l e):
  bodyPost prog fn (dI l w0) .ret ⟨tmps,ds⟩ w':=
 bG hf ha hd (x:=.agg #[e]) (by simpa using pJ (P:=prog) (T:=45) ho _ underlying45 rfl (by kernel_rfl))
  ⟨_,rfl,⟨_,rfl,t6 hg h2 he⟩,aI (hb.grown hg hb.size (by intro k e;cases e;exact hge))⟩
end Go.Cm
namespace Go.Cm
open Go.RowKit Go.Proofs Go.Proofs.YtdffpnabpoogbaaGreatDoor
def q5W:List (String×DataW Unit):=[("errors.errorType",Rows.laid_errors_errorType),("collimator/blame.errBytes",Rows.laid_collimator_blame_errBytes),("collimator/blame.errCodes",Rows.laid_collimator_blame_errCodes),("collimator/blame.errTexts",Rows.laid_collimator_blame_errTexts),("collimator/blame.errRoom",Rows.laid_collimator_blame_errRoom),("collimator/blame.errOther",Rows.laid_collimator_blame_errOther)]
theorem qao:prog.globalNamed "errors.errorType" =some 0:=by kernel_rfl
theorem qap:(prog.cutTypes.find? (·.1== "internal/reflectlite.rtype")).map (·.2)=some 148:=by kernel_rfl
theorem q9w:((List.range prog.types.size).filter fun t=>prog.rowNamed t [101,114,114,111,114])=[43]:=by kernel_rfl
theorem q4o:typeHandle prog 43=.pointer (some ⟨7,43,none⟩):=by kernel_rfl
theorem q4p: "*" ++ "errors.errorString" = "*errors.errorString" :=by decide
theorem qaq(u:TypeId)(h:prog.typeName? 3 u=some "*errors.errorString"):u=192:=
 typeName_ptr_named (nm:= "errors.errorString") (by rw[q4p];kernel_rfl) (by kernel_rfl) (by decide) u (by rw[q4p];exact h)
theorem qar:prog.cellsOf 240=1:=by kernel_rfl
theorem qas:prog.cellsOf 9=1:=by kernel_rfl
theorem q5X{W:World}(h:handlesMet prog [("errors.errorType",Rows.laid_errors_errorType)] W):W.cell? ⟨0,0,none⟩=some (.iface 148 (.agg #[.pointer (some ⟨7,43,none⟩)])):=by
 obtain⟨name,u,ty,e1,e2,e3,e4,e5⟩:=h _ (List.mem_singleton.2 rfl);have en:name=[101,114,114,111,114]:=(qo e1).symm;subst en;obtain rfl:=qo (qap.symm.trans e2);have hm:ty∈(List.range prog.types.size).filter fun t=>prog.rowNamed t [101,114,114,111,114]:=List.mem_filter.2 ⟨List.mem_range.2 e3,e4⟩;rw[q9w]at hm;obtain rfl:=List.mem_singleton.1 hm;rw[q4o]at e5;simpa using World.var?_cell qao e5 0
theorem yS{W:World}{n:String}{g0 g:Nat}{t:TypeId}{cs:Array Value}{fuel:Nat}{p:List MemPlace}{text:List UInt8}(hg0:prog.globalNamed n=some g0)(ht0:(prog.globals[g0]?).map (·.type)=some 43)(hg:prog.globalNamed n=some g)(ht:(prog.globals[g]?).map (·.type)=some t)(hv:W.var? prog n=some cs)
  (htr:DataW.trod (fun _=>()) prog W 0 (fun _=>true) false fuel t cs.toList=some (.iface "*errors.errorString" (.ptr (.agg [.lit (.string text)])),p)) (hok:∀u v,W.cell? ⟨g,0,none⟩=some (.iface u v)->Value.okWide prog W .any 0 u v):
  ∃q,W.cell? ⟨g0,0,none⟩=some (.iface 192 (.pointer (some q))):=by
 obtain rfl:=qo (hg0.symm.trans hg);obtain rfl:=qo (ht0.symm.trans ht)
 obtain⟨a,s,hcs,-⟩:=errorString_of_trod (nm:= "*errors.errorString") underlying43 qaq underlying192 underlying240 rfl rfl underlying9 qar qas htr (fun u v e=>hok u v (by
  have h0:=World.var?_cell hg0 hv 0;rw[h0,<-j6,e];rfl))
 refine⟨a,?_⟩;have h0:=World.var?_cell hg0 hv 0;rw[h0,<-j6,hcs];rfl
theorem T6{W:World}{n:String}{g0 g:Nat}{t:TypeId}{cs:Array Value}{fuel:Nat}{p:List MemPlace}{d:DataW Unit}(hg0:prog.globalNamed n=some g0)(ht0:(prog.globals[g0]?).map (·.type)=some 43)(hg:prog.globalNamed n=some g)(ht:(prog.globals[g]?).map (·.type)=some t)
  (htr:DataW.trod (fun _=>()) prog W 0 (fun _=>true) false fuel t cs.toList=some (.iface "*errors.errorString" d,p)):cs.size≠0:=by
 obtain rfl:=qo (hg0.symm.trans hg);obtain rfl:=qo (ht0.symm.trans ht);obtain⟨_,u,v,e,-⟩:=iface_of_trod underlying43 htr;rw[<-qN,e];exact Nat.one_ne_zero
theorem gJ.of{W:World}(h:laidMetH prog q5W W):gJ W:=by
 have h':laidMet prog [("collimator/blame.errBytes",Rows.laid_collimator_blame_errBytes),("collimator/blame.errCodes",Rows.laid_collimator_blame_errCodes),("collimator/blame.errTexts",Rows.laid_collimator_blame_errTexts),("collimator/blame.errRoom",Rows.laid_collimator_blame_errRoom),("collimator/blame.errOther",Rows.laid_collimator_blame_errOther)] W/\handlesMet prog [("errors.errorType",Rows.laid_errors_errorType)] W:=h;obtain⟨⟨ps,hl,-,hok⟩,hh⟩:=h';obtain⟨g1,t1,c1,f1,p1,q1,a1,b1,v1,r1,⟨g2,t2,c2,f2,p2,q2,a2,b2,v2,r2,⟨g3,t3,c3,f3,p3,q3,a3,b3,v3,r3,⟨g4,t4,c4,f4,p4,q4,a4,b4,v4,r4,⟨g5,t5,c5,f5,p5,q5,a5,b5,v5,r5,-,e5⟩,e4⟩,e3⟩,e2⟩,e1⟩:=hl
 have hrow:∀(g:Nat) (c:Array Value),c.size≠0->MemPlace.cell g 0∈MemPlace.row ⟨g,0,none⟩ c.size:=fun g c h=>by
  obtain⟨k,hk⟩:=Nat.exists_eq_succ_of_ne_zero h;rw[hk];exact List.mem_map.2 ⟨0,List.mem_range.2 (Nat.succ_pos k),rfl⟩
 have i1:=hrow g1 c1 (T6 (g0:=1) (by kernel_rfl) (by kernel_rfl) a1 b1 r1);have i2:=hrow g2 c2 (T6 (g0:=2) (by kernel_rfl) (by kernel_rfl) a2 b2 r2);have i3:=hrow g3 c3 (T6 (g0:=3) (by kernel_rfl) (by kernel_rfl) a3 b3 r3);have i4:=hrow g4 c4 (T6 (g0:=4) (by kernel_rfl) (by kernel_rfl) a4 b4 r4);have i5:=hrow g5 c5 (T6 (g0:=5) (by kernel_rfl) (by kernel_rfl) a5 b5 r5);subst e5 e4 e3 e2 e1;have s1:=yS (g0:=1) (by kernel_rfl) (by kernel_rfl) a1 b1 v1 r1 (hok g1 0 (by simp[i1])).2;have s2:=yS (g0:=2) (by kernel_rfl) (by kernel_rfl) a2 b2 v2 r2 (hok g2 0 (by simp[i2])).2;have s3:=yS (g0:=3) (by kernel_rfl) (by kernel_rfl) a3 b3 v3 r3 (hok g3 0 (by simp[i3])).2;have s4:=yS (g0:=4) (by kernel_rfl) (by kernel_rfl) a4 b4 v4 r4 (hok g4 0 (by simp[i4])).2;have s5:=yS (g0:=5) (by kernel_rfl) (by kernel_rfl) a5 b5 v5 r5 (hok g5 0 (by simp[i5])).2;refine⟨q5X hh,fun g hg=>?_⟩;rcases hg with rfl|rfl|rfl|rfl|rfl
 ·exact s1
 ·exact s2
 ·exact s3
 ·exact s4
 exact s5
noncomputable def q4q:Nat:=(World.holding prog default ⟨#[],#[],[]⟩).heap.size
def q4r(k:Nat):ByteArray:=if k=0 then⟨#[98,121,116,101,115]⟩else if k=1 then⟨#[99,111,100,101,115]⟩else if k=2 then⟨#[116,101,120,116,115]⟩else if k=3 then⟨#[114,111,111,109]⟩else⟨#[111,116,104,101,114]⟩
def q1W(h:Array Obj)(g:Nat)(v:Value):Array Obj:=h.modify g fun
 |.cells _ t frozen=>.cells #[v] t frozen
 |o=>o
noncomputable def q85(os:Os):World:=
 let w0:=World.holding prog os ⟨#[.cells #[.string (q4r 0)] 240,.cells #[.string (q4r 1)] 240,.cells #[.string (q4r 2)] 240,.cells #[.string (q4r 3)] 240,.cells #[.string (q4r 4)] 240],#[],[]⟩
 {w0 with heap:=q1W (q1W (q1W (q1W (q1W (q1W w0.heap 0 (.iface 148 (.agg #[.pointer (some ⟨7,43,none⟩)])))
  1 (.iface 192 (.pointer (some ⟨q4q,0,none⟩)))) 2 (.iface 192 (.pointer (some ⟨q4q+1,0,none⟩)))) 3 (.iface 192 (.pointer (some ⟨q4q+2,0,none⟩))))
  4 (.iface 192 (.pointer (some ⟨q4q+3,0,none⟩)))) 5 (.iface 192 (.pointer (some ⟨q4q+4,0,none⟩)))}
end Go.Cm
