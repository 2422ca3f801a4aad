/- Walks of functions and plain facts, joined and squeezed by a program. Conditions: as each says. -/
import Derived.Laws.IdiomCopy
import Derived.Test.YtiladjhipahiiaaGreatDLXG
import Derived.Test.YtiladjhipahiiaaGreatDLXB
set_option maxHeartbeats 8000000
set_option maxRecDepth 100000
set_option linter.unusedSimpArgs false
open Go.Proofs.Tryz
namespace Go.Cm
open Go.RowKit Go.Proofs
theorem ZmH0{P:Prop}(h:P:=by
 have qd5:=HIX.o k hlt
 have HTK:=qa (HT.o k hlt);have HMK:=qa (HM.o k hlt);generalize l.getD k 0=d at*;by_cases hd:d=c
 ·subst hd
  go_wp2;go_ret;exact⟨by rw[HR.o,qz HMK.o];rfl,dP _⟩
 have hne:=pG hd;go_wp2
 go_round
 case rel=>exact⟨k+1,by omega,by go_num,HTK.o hd HN.o⟩
 case measure=>simp[intOf];omega):P:=h
theorem ZmH1{P:Prop}(h:P:=by
 unfold pB mG
 have h2:(if c<64 then x.a else if c<128 then x.b else if c<192 then x.c else x.d)=(if c/64=0 then x.a else if c/64=1 then x.b else if c/64=2 then x.c else x.d):=by
  (repeat' split)<;>first|rfl|omega
 rw[h2]):P:=h
theorem ZmH2{P:Prop}(h:P:=by
 go_roundg (ln-(i+1))
 case measure=>omega
 case rel=>exact⟨i+1,by go_num,by omega,by rw[HNX.o,qfE.o];exact HOW.o,HW.o,rfl⟩):P:=h
theorem ZmH3{P:Prop}(h:P:=by
 obtain⟨k,hk⟩:q6L L w:=by simpa[many_NtA]using h
 exact⟨k+1,by omega,.inl (by decide),hk⟩):P:=h
theorem ZmH4{P:Prop}(h:P:=by unfold mG;rcases(show c/64=0\/c/64=1\/c/64=2\/c/64=3 by omega)with h|h|h|h<;>rw[h]<;>rfl):P:=h
theorem ZmH5{P:Prop}(h:P:=by clear h2;go_enter func104,ntmps104;go_wp2;go_ret;exact⟨HE2.o,(aJ aO)⟩):P:=h
theorem ZmH6{P:Prop}(h:P:=by
 have:(ints cl).length=256:=by rw[aS,h]
 rw[qu,ji (by omega),this];rfl):P:=h
theorem ZmH7{P:Prop}(h:P:=by go_wp2;go_ret;rw[HL.o]at HN;exact⟨by rw[HR.o,qx HN.o];rfl,dP _⟩):P:=h
def K7(e:List (List Ed))(a b:Nat):Prop:=∃x∈e.getD a [],x.free=true/\x.tgt=b
inductive Rch(e:List (List Ed))(S:Nat->Prop):Nat->Prop
 |base {b:Nat}:S b->Rch e S b
 |step {a b:Nat}:Rch e S a->K7 e a b->Rch e S b
noncomputable def nD(n:Nat)(P:Nat->Prop):List Nat:=(List.range n).filter fun i=>@decide (P i) (Classical.propDecidable _)
theorem i6{n:Nat}{P:Nat->Prop}{i:Nat}:i∈nD n P↔i<n/\P i:=by simp[nD]
theorem wV{n:Nat}{P Q:Nat->Prop}(h:∀i,i<n->(P i↔Q i)):nD n P=nD n Q:=by
 unfold nD;refine List.filter_congr fun i hi=>?_;rw[a9]at hi;by_cases hp:P i
 ·rw[@qz (P i) (Classical.propDecidable _) hp,@qz (Q i) (Classical.propDecidable _) ((h i hi).1 hp)]
 rw[@qx (P i) (Classical.propDecidable _) hp,@qx (Q i) (Classical.propDecidable _) (fun q=>hp ((h i hi).2 q))]
theorem q79{n:Nat}{P:Nat->Prop}(p:Nat->Bool)(h:∀i,i<n->(P i↔p i=true)):nD n P=(List.range n).filter p:=by
 unfold nD;refine List.filter_congr fun i hi=>?_;rw[a9]at hi;by_cases hp:P i
 ·rw[@qz (P i) (Classical.propDecidable _) hp,(h i hi).1 hp]
 rw[@qx (P i) (Classical.propDecidable _) hp];cases hq:p i with
 |false=>rfl
 |true=>exact absurd ((h i hi).2 hq) hp
theorem q23(n:Nat)(P:Nat->Prop):(nD n P).length<=n:=qc (a6 _ _) (by simp)
theorem Rch.mono{e:List (List Ed)}{S T:Nat->Prop}(h:∀i,S i->T i){b:Nat}(hb:Rch e S b):Rch e T b:=by
 induction hb with
 |base h1=>exact .base (h _ h1)
 |step _ h2 ih=>exact .step ih h2
theorem Rch.least{e:List (List Ed)}{S M:Nat->Prop}(h:∀i,S i->M i)(hc:∀a b,M a->K7 e a b->M b){b:Nat}(hb:Rch e S b):M b:=by
 induction hb with
 |base h1=>exact h _ h1
 |step _ h2 ih=>exact hc _ _ ih h2
def On(m:List Int)(i:Nat):Prop:=m.getD i 0=1
structure mC(n:Nat)(m:List Int):Prop where
 len:m.length=n
 bit:∀i,m.getD i 0=0\/m.getD i 0=1
theorem On.lt{n:Nat}{m:List Int}(hb:mC n m){i:Nat}(h:On m i):i<n:=by
 apply qi;intro hn;unfold On at h;rw[qu,qQ (by have:=hb.len;omega)]at h;cases h
theorem q24{n:Nat}{m:List Int}(hb:mC n m){t:Nat}(ht:t<n)(i:Nat):On (m.set t 1) i↔i=t\/On m i:=by
 unfold On;have:=hb.len;by_cases h:i=t
 ·subst h
  simp[List.getD,show i<m.length by omega]
 simp[List.getD,h,show t≠i from fun e=>h e.symm]
theorem yX{n:Nat}{m:List Int}(hb:mC n m)(t:Nat):mC n (m.set t 1):=⟨by simpa using hb.len,fun i=>by
 simp only[qu,jQ];split
 ·split
  ·exact .inr rfl
  exact .inl rfl
 have:=hb.bit i;simpa only[qu]using this⟩
theorem A7(n:Nat):mC n (List.replicate n 0):=⟨by simp,fun i=>.inl (by
 simp only[qu,jT];split<;>rfl)⟩
theorem q4s(n i:Nat):¬On (List.replicate n 0) i:=by
 unfold On;simp only[qu,jT];split<;>simp
theorem K8{n:Nat}{m:List Int}(hb:mC n m){t:Nat}(ht:t<n)(h0:m.getD t 0=0):(m.set t 1).count 0+1=m.count 0:=by
 have hl:=hb.len
 have h1:m[t]'(by omega)=0:=by
  rw[qu,qy (by omega)]at h0;simpa using h0
 rw[List.count_set (by omega),h1];have:0<m.count 0:=List.count_pos_iff.2 (h1▸jl _);simp;omega
theorem uK{n:Nat}{m:List Int}(hb:mC n m):mQ m=nD n (On m):=by
 rw[q79 (fun i=>decide (0<m.getD i 0))]
 ·unfold mQ;rw[hb.len]
 intro i _;unfold On;rcases hb.bit i with h|h<;>rw[h]<;>decide
structure SpI(e:List (List Ed))(n:Nat)(S:Nat->Prop)(m:List Int)(lf:List Nat)(X:Nat->Prop):Prop where
 bits:mC n m
 base:∀i,S i->On m i
 rch:∀i,On m i->Rch e S i
 clo:∀a,On m a->a∈lf\/X a\/∀b,K7 e a b->On m b
 lfm:∀a∈lf,On m a
 cnt:m.count 0+lf.length<=n
theorem q7a{e:List (List Ed)}{n:Nat}{m:List Int}(hb:mC n m):SpI e n (On m) m (mQ m) (fun _=>False):=by
 refine⟨hb,fun i h=>h,fun i h=>.base h,fun a h=>.inl ?_,fun a h=>?_,?_⟩
 ·rw[uK hb,i6];exact⟨h.lt hb,h⟩
 ·rw[uK hb,i6]at h;exact h.2
 have h1:(mQ m).length=(m.filter fun x=>decide (0<x)).length:=by
  unfold mQ
  have:m=(List.range m.length).map fun i=>m.getD i 0:=by
   refine jV (by simp) fun i h1 h2=>?_;simp[List.getD,h1]
  conv=>rhs;rw[this]
  rw[List.filter_map,qB]
  rfl
 have h2:m.count 0+(m.filter fun x=>decide (0<x)).length<=m.length:=by
  clear h1 hb
  induction m with
  |nil=>simp
  |cons a l ih=>
   rw[List.count_cons,jU];by_cases ha:0<a
   ·have h1:decide (0<a)=true:=qz ha
    have h2:(a==0)=false:=by simp;omega
    rw[h1,h2];simp;omega
   have h1:decide (0<a)=false:=qx ha;rw[h1];simp only[qT,jt,qA];split<;>omega
 rw[h1,<-hb.len];exact h2
theorem qah{e:List (List Ed)}{n:Nat}{S:Nat->Prop}{m:List Int}(h:SpI e n S m [] (fun _=>False)):mQ m=nD n (Rch e S):=by
 rw[uK h.bits];refine wV fun i _=>⟨h.rch i,fun hr=>Rch.least h.base (fun a b ha hf=>?_) hr⟩;rcases h.clo a ha with h1|h1|h1
 ·cases h1
 ·exact h1.elim
 exact h1 b hf
theorem qai{e:List (List Ed)}{n:Nat}{S:Nat->Prop}{m:List Int}{lf:List Nat}{s:Nat}(h:SpI e n S m (lf++[s]) (fun _=>False)):SpI e n S m lf (fun a=>a=s):=by
 refine⟨h.bits,h.base,h.rch,fun a ha=>?_,fun a ha=>h.lfm a (by simp[ha]),by have:=h.cnt;simp at this;omega⟩;rcases h.clo a ha with h1|h1|h1
 ·rcases List.mem_append.1 h1 with h2|h2
  ·exact .inl h2
  exact .inr (.inl (by simpa using h2))
 ·exact h1.elim
 exact .inr (.inr h1)
theorem q95{e:List (List Ed)}{n:Nat}{S:Nat->Prop}{m:List Int}{lf:List Nat}{s t:Nat}(h:SpI e n S m lf (fun a=>a=s))(ht:t<n)(hs:On m s)(hf:K7 e s t)(h0:m.getD t 0=0):SpI e n S (m.set t 1) (lf++[t]) (fun a=>a=s):=by
 have hon:=fun i=>q24 h.bits ht i;refine⟨yX h.bits t,fun i hi=>(hon i).2 (.inr (h.base i hi)),fun i hi=>?_,fun a ha=>?_,fun a ha=>?_,?_⟩
 ·rcases(hon i).1 hi with rfl|h1
  ·exact .step (h.rch s hs) hf
  exact h.rch i h1
 ·rcases(hon a).1 ha with rfl|h1
  ·exact .inl (by simp)
  rcases h.clo a h1 with h2|h2|h2
  ·exact .inl (by simp[h2])
  ·exact .inr (.inl h2)
  exact .inr (.inr fun b hb=>(hon b).2 (.inr (h2 b hb)))
 ·rcases List.mem_append.1 ha with h2|h2
  ·exact(hon a).2 (.inr (h.lfm a h2))
  exact(hon a).2 (.inl (by simpa using h2))
 have:=K8 h.bits ht h0;have:=h.cnt;simp;omega
theorem q96{e:List (List Ed)}{n:Nat}{S:Nat->Prop}{m:List Int}{lf:List Nat}{s:Nat}(h:SpI e n S m lf (fun a=>a=s))(hd:∀b,K7 e s b->On m b):SpI e n S m lf (fun _=>False):=by
 refine⟨h.bits,h.base,h.rch,fun a ha=>?_,h.lfm,h.cnt⟩;rcases h.clo a ha with h1|h1|h1
 ·exact .inl h1
 ·exact .inr (.inr fun b hb=>hd b (h1▸hb))
 exact .inr (.inr h1)
def By(e:List (List Ed))(S:Nat->Prop)(c:Nat)(b:Nat):Prop:=∃a,S a/\∃x∈e.getD a [],x.free=false/\pB x c=true/\x.tgt=b
def yK(e:List (List Ed))(F:Nat):List Nat->Nat->Prop
 |[]=>Rch e (fun i=>i=F)
 |c::cs=>fun b=>Rch e (By e (yK e F cs) c) b
theorem R9(v:Int):bits .and .u64 v 1=v%2:=by
 have h1:(BitVec.ofInt 64 v&&&BitVec.ofInt 64 1).toNat=(BitVec.ofInt 64 v).toNat%2:=by
  rw[BitVec.toNat_and];exact Nat.and_one_is_mod _
 have h2:((BitVec.ofInt 64 v).toNat:Int)=v%18446744073709551616:=by
  rw[BitVec.toNat_ofInt];exact Int.toNat_of_nonneg (Int.emod_nonneg _ (by decide))
 show IntKind.u64.wrap ((BitVec.ofInt 64 v&&&BitVec.ofInt 64 1).toNat:Int)=v%2;rw[h1,IntKind.wrap_u64];omega
def mG(x:Ed)(q:Nat):Int:=if q=0 then x.a else if q=1 then x.b else if q=2 then x.c else x.d
theorem q25{w:World}(x:Ed)(c:Nat)(hc:c<256):
  Calls prog 71 #[.agg #[.int .u64 x.a,.int .u64 x.b,.int .u64 x.c,.int .u64 x.d],.int .u8 c] w fun e w'=>e=.returned (.bool (pB x c))/\∃x,w'=ext w x:=by
 have h1:=R9
 have hw:pB x c=(mG x (c/64)/2^(c%64)%2==1):=by
  exact ZmH1
 rw[hw]
 have hcell:[Value.int .u64 x.a,Value.int .u64 x.b,Value.int .u64 x.c,Value.int .u64 x.d][c/64]? =some (.int .u64 (mG x (c/64))):=by
  exact ZmH4
 have hm:c%64<64:=jW _ (by decide);clear hw;go_enter func71,ntmps71;go_wp2;go_ret;exact⟨rfl,aJ (aD w _)⟩
def qbg(x:Ed):Prop:=∀q,0<=mG x q
theorem qc7{w:World}(x:Ed)(hx:qbg x)(c:Nat)(hc:c<256):
  Calls prog 102 #[.agg #[.int .u64 x.a,.int .u64 x.b,.int .u64 x.c,.int .u64 x.d],.int .u8 c] w fun e w'=>e=.returned (.bool (pB x c))/\∃x,w'=ext w x:=by
 have hw:pB x c=(mG x (c/64)/2^(c%64)%2==1):=by
  exact ZmH1
 rw[hw]
 have hcell:[Value.int .u64 x.a,Value.int .u64 x.b,Value.int .u64 x.c,Value.int .u64 x.d][c/64]? =some (.int .u64 (mG x (c/64))):=by
  exact ZmH4
 have hm:c%64<64:=jW _ (by decide);have h0:=hx (c/64);generalize mG x (c/64)=v at*;have qme:0<=v/2^(c%64):=Int.ediv_nonneg h0 (Int.pow_nonneg (by decide));clear hw hx;go_enter func102,ntmps102;go_wp2;go_ret;exact⟨rfl,aJ (aD w _)⟩
theorem wW(n:Nat)(st:List Int):mC n (uI n st):=by
 unfold uI
 have key:∀(l:List Int) (m:List Int),mC n m->mC n (l.foldl mk1 m):=by
  intro l
  induction l with
  |nil=>intro m h;exact h
  |cons a l ih=>
   intro m h;rw[qL];refine ih _ ?_;unfold mk1;split
   ·exact yX h _
   exact h
 exact key st _ (A7 n)
theorem q7b(n:Nat)(st:List Int)(i:Nat):On (uI n st) i↔i<n/\(i:Int)∈st:=by
 unfold uI
 have key:∀(l:List Int) (m:List Int),mC n m->(On (l.foldl mk1 m) i↔On m i\/(i<n/\(i:Int)∈l)):=by
  intro l
  induction l with
  |nil=>intro m h;simp
  |cons a l ih=>
   intro m h;rw[qL];by_cases ha:0<=a/\a<m.length
   ·have e:mk1 m a=m.set a.toNat 1:=by unfold mk1;rw[qw ha]
    have hl:=h.len;rw[e,ih _ (yX h _),q24 h (by omega)]
    constructor
    ·rintro((h1|h1)|h1)
     ·exact .inr ⟨by omega,by simp;omega⟩
     ·exact .inl h1
     exact .inr ⟨h1.1,by simp[h1.2]⟩
    rintro(h1|⟨h1,h2⟩)
    ·exact .inl (.inr h1)
    rcases List.mem_cons.1 h2 with h3|h3
    ·exact .inl (.inl (by omega))
    exact .inr ⟨h1,h3⟩
   have e:mk1 m a=m:=by unfold mk1;rw[qv ha]
   have hl:=h.len;rw[e,ih _ h];refine or_congr Iff.rfl (and_congr_right fun h1=>⟨fun h2=>qY _ h2,fun h2=>?_⟩);rcases List.mem_cons.1 h2 with h3|h3
   ·omega
   exact h3
 rw[key st _ (A7 n)];exact⟨fun h=>h.elim (fun h=>absurd h (q4s n i)) id,.inr⟩
theorem yY(l:List Int)(i:Nat)(x:Int):(ints l).set i (.int .i64 x)=ints (l.set i x):=by simp[ints,aC]
theorem q26(n:Nat)(x:Int):List.replicate n (.int .i64 x)=ints (List.replicate n x):=by simp[ints]
theorem q8k{w:World}{A:Array Value}{e:List (List Ed)}{F:Int}{r:List Int}(h:X4 w A e F r)(hn:e.length<=100000){v:Value}{st:List Int}(hs:eB w v st):
  Calls prog 64 #[.agg A,v] w fun en w'=>∃u,en=.returned u/\Own w' w.heap.size 3 u (ints (uI e.length st))/\Below w.heap.size w w':=by
 obtain⟨ve,vr,rfl,he,hr⟩:=h;obtain⟨oe,ce,be,fe,rfl,hde,hce⟩:=he.open;obtain⟨os,cs,bs,fs,rfl,hds,hcs⟩:=hs.open;have hix:=fun(W:World) (i:Nat) (hi:i<st.length)=>aT (P:=prog) 27 3 underlying27 (by kernel_rfl) hds W .i64 i (by omega) (by omega);simp only[qD]at hix;have HB:=qa hds.hblk;have HC:=qa hcs;have hml:=hds.len;obtain⟨n,hn'⟩:∃n,n=e.length:=⟨_,rfl⟩;obtain⟨ln,hln⟩:∃ln,ln=st.length:=⟨_,rfl⟩;have HLN:=qa hln;have hmk:=J8 (P:=prog) 27 3 (.int .i64 0) 8 n underlying27 (by kernel_rfl) rfl (by decide) (by omega);rw[<-hn']at hn⊢;rw[<-hln]at hix HB HC hml⊢;have HA:=qa (aD w (.cells #[.slice oe n ce,.int .i64 F,vr] 35));have HO:=qa (yR (w.alloc (.cells #[.slice oe n ce,.int .i64 F,vr] 35)) w.heap.size 3 (.int .i64 0) n (by simp) (by omega));have HA2:=qa (HA.o.trans ((aD (w.alloc (.cells #[.slice oe n ce,.int .i64 F,vr] 35)) (.cells (madeCells #[.int .i64 0] n) 3)).mono HA.o.size));have hsz:(w.alloc (.cells #[.slice oe n ce,.int .i64 F,vr] 35)).heap.size=w.heap.size+1:=by simp
 rw[hsz]at HO;clear hs hds hcs hn' hln hce hde he hr;go_enter func64,ntmps64;go_wp2;generalize (w.alloc (.cells #[.slice oe n ce,.int .i64 F,vr] 35)).alloc (.cells (madeCells #[.int .i64 0] n) 3)=w1 at*
 go_loopg [14] ln (fun gk iv wr=>∃i:Nat,iv=.int .i64 i/\i<=ln/\Own wr w.heap.size 3 (.slice (some ⟨w.heap.size+1,0,none⟩) n n) (ints ((st.take i).foldl mk1 (List.replicate n 0)))/\Below w.heap.size w wr/\gk=ln-i)
 case atStart=>exact⟨0,rfl,qd _,by simpa[q26]using HO.o,HA2.o,rfl⟩
 case round=>
  obtain⟨i,rfl,hi,hown,qcw,rfl⟩:=hrel;have HW:=qa qcw;have HMS:=qa (rfl:(st.take i).foldl mk1 (List.replicate n 0)=(st.take i).foldl mk1 (List.replicate n 0));by_cases hlt:i<ln
  ·have hcell:=(HW.o.cell (p:=⟨bs,fs+i,none⟩) (HB.o (by omega))).trans (HC.o i hlt)
   have hbw:bs<wr.heap.size:=by have:=HW.o.size;have:=HB.o (by omega);omega
   have qcB:=fun W=>hix W i hlt;have HNX:=qa (q3e mk1 (List.replicate n 0) st 0 i (by have:=HLN.o;omega));have HML:Hid (((st.take i).foldl mk1 (List.replicate n 0)).length=n):=qa (by rw[yJ,qP]);obtain⟨x,hx⟩:∃x,x=st.getD i 0:=⟨_,rfl⟩;rw[<-hx]at hcell HNX;generalize (st.take i).foldl mk1 (List.replicate n 0)=m at*;have HOW:=qa hown;have qd9:=HW.o.size;clear hx hown qcw HA2 HO HMS hmk;by_cases h0:0<=x
   ·obtain⟨k,rfl⟩:=jH h0
    by_cases h1:k<n
    ·have hfr:=HOW.o.free k
     have hbg:=HOW.o.blk.2;have hcx:=HOW.o.cell (i:=k) (by rw[aS,HML.o];exact h1);have qeu:=aT (P:=prog) 27 3 underlying27 (by kernel_rfl) (show Hd wr (some ⟨w.heap.size+1,0,none⟩) n n (w.heap.size+1) 0 from⟨fun _=>rfl,qb _,by simp only[maxLen];omega,by omega,fun _=>hbg⟩);have qd5:=fun W=>qeu W .i64 k (by omega) (by omega);simp only[qD,qI]at qd5;have HST:=qa (HOW.o.store k (.int .i64 1));have qfE:Hid (mk1 m (k:Int)=m.set k 1):=qa (by unfold mk1;rw[qw (by have:=HML.o;omega)];simp);clear qeu;go_wp2
     go_roundg (ln-(i+1))
     case measure=>omega
     case rel=>
      have hg:=HST.o.2;refine⟨i+1,by go_num,by omega,?_,HW.o.grown hg qd9 (fun q hq=>by cases hq;omega),rfl⟩;rw[HNX.o,qfE.o,<-yY];exact HST.o.1
    have qfE:Hid (mk1 m (k:Int)=m):=qa (by unfold mk1;rw[qv (by have:=HML.o;omega)]);go_wp2
    exact ZmH2
   have qfE:Hid (mk1 m x=m):=qa (by unfold mk1;rw[qv (by omega)]);go_wp2
   exact ZmH2
  have hie:i=ln:=by omega
  subst hie;have HOW:=qa hown;clear hown;go_wp2;go_ret;refine⟨_,rfl,?_,HW.o⟩;have:=HOW.o;rw[HLN.o,j3]at this;exact this
theorem Own.lowI{w:World}{B:Nat}{g n cap:Nat}{xs:List Value}(h:Own w B 3 (.slice (some ⟨g,0,none⟩) n cap) xs)(k:Nat)(hk:k<=n)(h0:0<n):
  Own w B 3 (.slice (some ⟨g,0,none⟩) k cap) (xs.take k)/\∀W:World,(Instr.sliceAt 27 (.slice (some ⟨g,0,none⟩) n cap) none (some (.int .i64 (k:Int))) none).run prog W=.ok (.slice (some ⟨g,0,none⟩) k cap) W:=by
 have hl:=h.len;obtain⟨⟨hz,hh⟩,hs⟩:=h;rcases hh with⟨h1,_⟩|⟨g',cap',cur,h1,hb,hg,hnc,hcm,hcs,qcz⟩
 ·cases h1
 simp at h1;obtain⟨rfl,h2,rfl⟩:=h1;have ht:(xs.take k).length=k:=by rw[qX];omega
 refine⟨⟨⟨by omega,.inr ⟨g,cap,cur,by rw[ht],hb,hg,by rw[ht];omega,hcm,hcs,?_⟩⟩,by omega⟩,fun W=>?_⟩
 ·rw[ht]
  have:xs.take k=(cur.toList.take (xs.length*1)).take k:=by rw[qcz]
  rw[this,List.take_take]
  congr 1
  omega
 obtain⟨r1,r2⟩:=rX (P:=prog) (k:=1) 27 3 underlying27 (by kernel_rfl);rw[run_sliceAt_slice (P:=prog) (t:=27) (h:=r1),run_slice_h (t:=27) (ht:=r1) (h0:=by omega) (h2:=by omega),r2];simp[Result.andThen,sliced,show cap≠0 by omega,kJ]
theorem q4t{w0 w:World}{A:Array Value}{e:List (List Ed)}{F:Int}{r:List Int}(h:X4 w0 A e F r)(hb:Below w0.heap.size w0 w)(hr:dK e F r=true){v:Value}{m0:List Int}(hm:Own w w0.heap.size 3 v (ints m0))(h01:mC e.length m0):
  Calls prog 63 #[.agg A,v] w fun en w'=>∃u,en=.returned u/\Own w' w0.heap.size 3 u (ints (nz (nD e.length (Rch e (On m0)))))/\Below w0.heap.size w0 w':=by
 obtain⟨hhd,qdr⟩:=lD.1 hr;have hn:1<=e.length/\e.length<=3000:=by have:=jc hhd;omega
 have HED:Hid (∀i,i<e.length->∀j,j<(e.getD i []).length->q0U e.length ((e.getD i []).getD j cY)=true):=qa (fun i hi j hj=>(A5.1 (qdr i hi)).2 j hj);obtain⟨ve,vr,rfl,he,-⟩:=h;obtain⟨oe,ce,be,fe,rfl,hde,hce⟩:=he.open;have qdw:=uJ hde;have hbe:=hde.hblk (by omega);have HCE:=qa hce;have hlm:(ints m0).length=e.length:=by rw[aS];exact h01.len
 obtain⟨oa,cap,g,rfl,hdv,hgb,-⟩:=hm.cases;rw[hlm]at hm hdv hgb⊢;obtain rfl:=hdv.hat (by omega);obtain⟨-,hg0⟩:=hgb (by omega);have hgw:=hdv.hblk (by omega);have qeu:=fun(W:World) (i:Nat) (hi:i<e.length)=>aT (P:=prog) 27 3 underlying27 (by kernel_rfl) hdv W .i64 i (by omega) (by omega);simp only[qD,qI]at qeu;have HS0:=qa (q7a (e:=e) h01);obtain⟨n,hn'⟩:∃n,n=e.length:=⟨_,rfl⟩;have HN:=qa hn';rw[<-hn']at hn HED qdw HCE hm qeu HS0⊢;have hA:=aD w (.cells #[.slice oe n ce,.int .i64 F,vr] 35);have HBX:=qa (by simpa using cN w 0 #[.slice oe n ce,.int .i64 F,vr] 35 (by simp) (qd _):Own (w.alloc (.cells #[.slice oe n ce,.int .i64 F,vr] 35)) 0 35 (.slice (some ⟨w.heap.size,0,none⟩) 3 3) [.slice oe n ce,.int .i64 F,vr]);have HM1:=qa (hm.up hA);have HB1:=qa (hb.trans (hA.mono hb.size));have hsz:(w.alloc (.cells #[.slice oe n ce,.int .i64 F,vr] 35)).heap.size=w.heap.size+1:=by simp
 have qkj:∃S,S=On m0:=⟨_,rfl⟩;obtain⟨S,hS⟩:=qkj;rw[<-hS]at HS0⊢;have hw0:=hb.size;clear hm hdv hgb hde hce he qdr hhd hr h01 hlm hS hn' hb hA;go_enter func63,ntmps63
 go_upto_region 1 with fail
 generalize w.alloc (.cells #[.slice oe n ce,.int .i64 F,vr] 35)=w1 at*;have HMK:=qa (q1b (w:=w1) HM1.o.sl (by have:=HS0.o.bits.len;omega))
 go_wp2_with((with_reducible go_at_call 83);refine HMK.o.mono ?_;rintro en w2 ⟨u,rfl,ho,hb2⟩;have HO2:=qa (ho.mono (Nat.le_of_eq hsz.symm));have HB2:=qa (HB1.o.trans (hb2.mono HB1.o.size));have HM2:=qa (HM1.o.up hb2);have qcP:=qa (HBX.o.up hb2);clear ho hb2)
 clear HMK HM1 HB1 HBX hsz
 go_loopg [5] (m0.count 0+(mQ m0).length) (fun gk lv wr=>∃(m:List Int) (lf:List Nat),Own wr w0.heap.size 3 (.slice (some ⟨g,0,none⟩) n cap) (ints m)/\Own wr (w.heap.size+1) 3 lv (ints (nz lf))/\SpI e n S m lf (fun _=>False)/\Own wr 0 35 (.slice (some ⟨w.heap.size,0,none⟩) 3 3) [.slice oe n ce,.int .i64 F,vr]/\Below w0.heap.size w0 wr/\gk=m.count 0+lf.length)
 case atStart=>exact⟨m0,mQ m0,HM2.o,HO2.o,HS0.o,qcP.o,HB2.o,rfl⟩
 case round=>
  obtain⟨m,lf,hm,hl,hsp,hbx,hbl,rfl⟩:=hrel;have HSP:=qa hsp;have HM:=qa hm;have HL:=qa hl;have HB:=qa hbl;have HX:=qa hbx;clear HM2 HO2 HS0 qcP HB2 hm hl hsp hbx hbl;have HG:Hid (w.heap.size<wr.heap.size):=qa (HX.o.blk.2);rcases List.eq_nil_or_concat lf with rfl|⟨lf,s,rfl⟩
  ·obtain⟨ol,cl,gl,rfl,-,-⟩:=HL.o.cases
   simp only[nz,ints,ju,qO]at HL⊢;have HMK:=qa (q1b (w:=wr) HM.o.sl (by have:=HSP.o.bits.len;omega))
   go_wp2_with((with_reducible go_at_call 83);refine HMK.o.mono ?_;rintro en w2 ⟨u,rfl,ho,hb2⟩;have HO2:=qa ho;have HB2:=qa hb2;clear ho hb2)
   go_ret;refine⟨u,rfl,?_,HB.o.trans (HB2.o.mono HB.o.size)⟩;have:=HO2.o.mono HB.o.size;rw[qah HSP.o]at this;exact this
  rw[List.concat_eq_append]at*;have hsl:(ints (nz (lf++[s]))).length=lf.length+1:=by simp[nz]
  obtain⟨ol,cl,gl,rfl,hdl,hgl,hcl,-⟩:=HL.o.cases;rw[hsl]at HL hdl hgl hcl⊢;obtain rfl:=hdl.hat (by omega);have qkb:=hgl (by omega);have qfY:=hdl.hblk (by omega)
  have hcs:wr.cell? ⟨gl,lf.length,none⟩=some (.int .i64 (s:Int)):=by
   rw[hcl lf.length (by omega),fF _ _ (by simp[nz]),zU _ _ (by simp)];simp[List.getD]
  have qev:=aT (P:=prog) 27 3 underlying27 (by kernel_rfl) hdl;have qgD:=fun W=>qev W .i64 (lf.length:Int) (by omega) (by omega);simp only[qD,qI]at qgD;obtain⟨qgx,hcut⟩:=HL.o.lowI lf.length (by omega) (by omega)
  have qj0:Hid (Own wr (w.heap.size+1) 3 (.slice (some ⟨gl,0,none⟩) lf.length cl) (ints (nz lf))):=qa (by
   have e:(ints (nz (lf++[s]))).take lf.length=ints (nz lf):=by simp[ints,nz]
   rw[e]at qgx;exact qgx)
  have qgr:On m s:=HSP.o.lfm s (by simp);have hsn:s<n:=qgr.lt HSP.o.bits;have HON:=qa qgr;have qh0:=qa (qai HSP.o);obtain⟨oi,ci,bi,fi,hrow,hdi,hcell⟩:=HCE.o s hsn;have qda:=(HB.o.cell (p:=⟨be,fe+s,none⟩) hbe).trans hrow;have qdL:be<wr.heap.size:=by have:=HB.o.size;omega
  have qe9:=fun W=>qdw W s hsn;have qcB:=s9 hdi;have hbi:=hdi.hblk;have hmi:=hdi.len;have HCI:=qa hcell;have qep:=qa (HED.o s hsn);obtain⟨row,hrw⟩:∃row,row=e.getD s []:=⟨_,rfl⟩;have HRO:=qa hrw;rw[<-hrw]at qda qcB hbi hmi HCI qep;obtain⟨ln,hln⟩:∃ln,ln=row.length:=⟨_,rfl⟩;have HLN:=qa hln;rw[<-hln]at qda qcB hbi hmi HCI qep;have x0:=HX.o.cell (i:=0) (by simp);simp only[ja]at x0;have hwx:=HG.o;obtain⟨K,hK⟩:∃K,K=m.count 0+lf.length:=⟨_,rfl⟩;have HK:=qa hK;clear qgx hrow hdi hcell hrw hln qev hcl hdl hgl hsl qgr hK;have hlf:lf.length<=3000:=by have:=qh0.o.cnt;omega
  go_wp2;have HJK:Hid (List.count 0 m+(lf++[s]).length=K+1):=qa (by rw[HK.o];simp;omega);have HMO:=HM;have HXO:=HX;have HBO:=HB;have HGI:Hid (gl<wr.heap.size):=qa qfY;clear HM HX HB HG qda qdL x0 hwx hcs hcut qgD qfY;generalize wr=wo at*
  go_loopg [5,31] ln (fun gk lv jv wr=>∃(j:Nat) (m':List Int) (lf':List Nat),jv=.int .i64 j/\j<=ln/\Own wr w0.heap.size 3 (.slice (some ⟨g,0,none⟩) n cap) (ints m')/\Own wr (w.heap.size+1) 3 lv (ints (nz lf'))/\SpI e n S m' lf' (fun a=>a=s)/\On m' s/\(∀q,q<j->(row.getD q cY).free=true->∀b:Nat,(row.getD q cY).tgt=b->On m' b)/\Own wr 0 35 (.slice (some ⟨w.heap.size,0,none⟩) 3 3) [.slice oe n ce,.int .i64 F,vr]/\Below w0.heap.size w0 wr/\K=m'.count 0+lf'.length/\gk=ln-j)
  case atStart=>exact⟨0,m,lf,rfl,qd _,HMO.o,qj0.o,qh0.o,HON.o,fun q hq=>absurd hq (qC q),HXO.o,HBO.o,HK.o,rfl⟩
  case round=>
   obtain⟨j,m',lf',rfl,hj,hm,hl,hsp,hon,hall,hbx,hbl,hK,rfl⟩:=hrel;have HM:=qa hm;have HL:=qa hl;have qdO:=qa hsp;have qe1:=qa hon;have qdG:=qa hall;have HX:=qa hbx;have HB:=qa hbl;have HK':=qa hK;have qid:=HM.o.blk.2;clear hm hl hsp hon hall hbx hbl hK HMO HXO HBO qj0 qh0 HSP qkb HON HK HGI;by_cases hlt:j<ln
   ·obtain⟨ed,hed⟩:∃ed,ed=row.getD j cY:=⟨_,rfl⟩
    have HEE:=qa hed;have qdK:=hbi (by omega)
    have HCD:Hid (∀c,c<6->wr.cell? ⟨bi,fi+j*6+c,none⟩=some ((edA ed).getD c undef)):=qa (fun c hcl=>by
     rw[HB.o.cell (p:=⟨bi,fi+j*6+c,none⟩) qdK,HCI.o j hlt c hcl,R8,hed])
    have hok:=qep.o j hlt;rw[<-hed]at hok;obtain⟨tq,fr',a,b,c,d⟩:=ed;unfold edA at HCD;simp only at HCD;have ht:0<=tq/\tq<n:=by unfold q0U at hok;simp at hok;omega
    obtain⟨t,rfl⟩:=jH ht.1;have htn:t<n:=by omega
    have qdX:=fun W=>qcB W j hlt;have hA6:=aD wr (.cells #[.int .i64 t,.bool fr',.int .u64 a,.int .u64 b,.int .u64 c,.int .u64 d] 114);have HA6:=qa hA6;have qlH:(wr.alloc (.cells #[.int .i64 t,.bool fr',.int .u64 a,.int .u64 b,.int .u64 c,.int .u64 d] 114)).heap.size=wr.heap.size+1:=by simp
    clear hed hok ht hA6;cases fr' with
    |false=>
     go_wp2_with(refine aH rfl 114 _ rfl bi (fi+j*6) 6 rfl _ _ HCD.o rfl underlying114 rfl (by kernel_rfl) ?_)
     go_roundg (ln-(j+1))
     case measure=>omega
     case rel=>
      refine⟨j+1,m',lf',by go_num,by omega,HM.o.up HA6.o,HL.o.up HA6.o,qdO.o,qe1.o,fun q hq hf b' hb'=>?_,HX.o.up HA6.o,HB.o.trans (HA6.o.mono HB.o.size),HK'.o,rfl⟩;by_cases hqj:q=j
      ·rw[hqj,<-HEE.o]at hf;cases hf
      exact qdG.o q (by omega) hf b' hb'
    |true=>
     have HFR:Hid (K7 e s t):=qa ⟨⟨t,true,a,b,c,d⟩,by rw[<-HRO.o,HEE.o];simp[List.getD,show j<row.length by have:=HLN.o;omega],rfl,rfl⟩;have hcm:=HM.o.cell (i:=t) (by rw[aS,qdO.o.bits.len];exact htn);rw[fF _ _ (by rw[qdO.o.bits.len];exact htn)]at hcm;have qgC:=fun W=>qeu W t htn;rcases qdO.o.bits.bit t with h0|h1
     ·rw[h0]at hcm
      have HH0:=qa h0;have hfr:=HM.o.free t;have hwg:wr.heap.size+1=wr.heap.size+1:=rfl;have HST:=qa (HM.o.store t (.int .i64 1));have HA7:=qa (aD (wr.setCell ⟨g,t,none⟩ (.int .i64 1)) (.cells #[.int .i64 t,.bool true,.int .u64 a,.int .u64 b,.int .u64 c,.int .u64 d] 114));have HMA:=qa (HST.o.1.up HA7.o);have HLA:=qa ((HL.o.keep HST.o.2 (.inr (fun e=>by have:=HL.o.lt g e;omega))).up HA7.o);have HXA:=qa ((HX.o.keep HST.o.2 (.inr (fun e=>by have:w.heap.size=g:=qr e;omega))).up HA7.o);have HBA:Hid (Below w0.heap.size w0 ((wr.setCell ⟨g,t,none⟩ (.int .i64 1)).alloc (.cells #[.int .i64 t,.bool true,.int .u64 a,.int .u64 b,.int .u64 c,.int .u64 d] 114))):=qa ((HB.o.grown HST.o.2 (by have:=HB.o.size;omega) (fun k hk=>by cases hk;omega)).trans (HA7.o.mono (by have:=HB.o.size;simpa using this)));have qhL:((wr.setCell ⟨g,t,none⟩ (.int .i64 1)).alloc (.cells #[.int .i64 t,.bool true,.int .u64 a,.int .u64 b,.int .u64 c,.int .u64 d] 114)).heap.size=wr.heap.size+1:=by simp
      have HA8:=qa (aD ((wr.setCell ⟨g,t,none⟩ (.int .i64 1)).alloc (.cells #[.int .i64 t,.bool true,.int .u64 a,.int .u64 b,.int .u64 c,.int .u64 d] 114)) (.cells #[.int .i64 (t:Int)] 3));have hll:lf'.length<=3000:=by have:=qdO.o.cnt;omega
      have hwz:=HB.o.size;have hxz:=HX.o.blk.2
      have qkU:Hid (Sl (((wr.setCell ⟨g,t,none⟩ (.int .i64 1)).alloc (.cells #[.int .i64 t,.bool true,.int .u64 a,.int .u64 b,.int .u64 c,.int .u64 d] 114)).alloc (.cells #[.int .i64 (t:Int)] 3)) (.slice (some ⟨wr.heap.size+1,0,none⟩) 1 1) (ints (nz [t]))):=qa (by
       have:=eK ((wr.setCell ⟨g,t,none⟩ (.int .i64 1)).alloc (.cells #[.int .i64 t,.bool true,.int .u64 a,.int .u64 b,.int .u64 c,.int .u64 d] 114)) #[.int .i64 (t:Int)] 3 (by simp);rw[qhL]at this;exact this)
      clear h0 hwg
      go_wp2_with(first|(refine aH rfl 114 _ rfl bi (fi+j*6) 6 rfl _ _ HCD.o rfl underlying114 rfl (by kernel_rfl) ?_)|(at_builtin;go_loud (refine bF rfl (.tmp 49) (.tmp 52) 27 rfl (w.heap.size+1) 3 (.int .i64 0) 8 underlying27 (by kernel_rfl) rfl (by decide) u5 (ints (nz lf')) rfl (HLA.o.up HA8.o) (.slice (some ⟨wr.heap.size+1,0,none⟩) 1 1) (ints (nz [t])) rfl qkU.o (zW _) (by simp[nz];omega) (by simp;omega) ?_);intro v' w5 hown1 hg1 hk1;have HO1:=qa hown1;have HG1:=qa hg1;clear hown1 hg1 hk1))
      go_roundg (ln-(j+1))
      case measure=>omega
      case rel=>
       have qgH:=fun k (hk:u5.ownBlock=some k)=>(HL.o.lt k hk).1;have hmb:=qdO.o.bits;have qhY:=fun i=>q24 hmb htn i;refine⟨j+1,m'.set t 1,lf'++[t],by go_num,by omega,?_,?_,q95 qdO.o htn qe1.o HFR.o HH0.o,(qhY s).2 (.inr qe1.o),fun q hq hf b' hb'=>?_,?_,?_,?_,rfl⟩
       ·rw[<-yY]
        exact(HMA.o.up HA8.o).keep HG1.o (.inr (fun e=>by have:=qgH g e.symm;omega))
       ·rw[zV,rZ];exact HO1.o
       ·rw[qhY]
        by_cases hqj:q=j
        ·rw[hqj,<-HEE.o]at hb'
         exact .inl (jr hb').symm
        exact .inr (qdG.o q (by omega) hf b' hb')
       ·exact(HXA.o.up HA8.o).keep HG1.o (.inr (fun e=>by have:=qgH w.heap.size e.symm;omega))
       ·exact(HBA.o.trans (HA8.o.mono (by omega))).grown HG1.o (by simp;omega) (fun k hk=>by have:=qgH k hk;omega)
       have:=K8 hmb htn HH0.o;have:=HK'.o;simp;omega
     rw[h1]at hcm;have HH1:=qa h1;clear h1
     go_wp2_with(refine aH rfl 114 _ rfl bi (fi+j*6) 6 rfl _ _ HCD.o rfl underlying114 rfl (by kernel_rfl) ?_)
     go_roundg (ln-(j+1))
     case measure=>omega
     case rel=>
      refine⟨j+1,m',lf',by go_num,by omega,HM.o.up HA6.o,HL.o.up HA6.o,qdO.o,qe1.o,fun q hq hf b' hb'=>?_,HX.o.up HA6.o,HB.o.trans (HA6.o.mono HB.o.size),HK'.o,rfl⟩;by_cases hqj:q=j
      ·rw[hqj,<-HEE.o]at hb'
       obtain rfl:t=b':=jr hb';exact HH1.o
      exact qdG.o q (by omega) hf b' hb'
   go_wp2
   go_roundg K
   case measure=>rw[HJK.o];omega
   case rel=>
    refine⟨m',lf',HM.o,HL.o,q96 qdO.o (fun b hb=>?_),HX.o,HB.o,HK'.o⟩;obtain⟨x,hx,hf,ht⟩:=hb;rw[<-HRO.o]at hx;obtain⟨q,hq,rfl⟩:=jj hx;have hg:row.getD q cY=row[q]:=by simp[List.getD,hq]
    exact qdG.o q (by have:=HLN.o;omega) (by rw[hg];exact hf) b (by rw[hg];exact ht)
def InL(n:Nat)(st:List Int)(i:Nat):Prop:=i<n/\(i:Int)∈st
theorem q27(n:Nat)(st:List Int):On (uI n st)=InL n st:=funext fun i=>propext (q7b n st i)
noncomputable def q0V(e:List (List Ed))(F:Int)(r st:List Int):List Nat:=if dK e F r then nD e.length (Rch e (InL e.length st))else []
noncomputable def tI(e:List (List Ed))(st:List Int)(c:Nat):List Nat:=nD e.length (Rch e (By e (InL e.length st) c))
theorem rA{e:List (List Ed)}{F:Int}{r:List Int}(h:dK e F r=true):1<=e.length/\e.length<=3000:=by
 have:=jc (lD.1 h).1;omega
theorem pR{w:World}{p:Nat}{ve vr:Value}{F:Int}(h:Own w 0 35 (.slice (some ⟨p,0,none⟩) 3 3) [ve,.int .i64 F,vr]):∀c,c<3->w.cell? ⟨p,0+c,none⟩=some ((#[ve,.int .i64 F,vr]:Array Value).getD c undef):=fun c hc=>by
 rw[qI,h.cell (by simpa using hc)];rcases(show c=0\/c=1\/c=2 by omega)with rfl|rfl|rfl<;>rfl
theorem q7c{w:World}{A:Array Value}{e:List (List Ed)}{F:Int}{r:List Int}(h:X4 w A e F r){v:Value}{st:List Int}(hs:eB w v st):
  Calls prog 28 #[.agg A,v] w fun en w'=>∃u,en=.returned u/\Own w' w.heap.size 3 u (ints (nz (q0V e F r st)))/\Below w.heap.size w w':=by
 have h0:=h;obtain⟨ve,vr,rfl,-,-⟩:=h;obtain⟨R,hR⟩:∃R,R=dK e F r:=⟨_,rfl⟩;have HR:=qa hR;have HH:=qa h0;have HS:=qa hs;have HA:=qa (aD w (.cells #[ve,.int .i64 F,vr] 35));have HRT:=qa (q4r (h0.up HA.o));rw[<-hR]at HRT;have HBX:=qa (by simpa using cN w 0 #[ve,.int .i64 F,vr] 35 (by simp) (qd _):Own (w.alloc (.cells #[ve,.int .i64 F,vr] 35)) 0 35 (.slice (some ⟨w.heap.size,0,none⟩) 3 3) [ve,.int .i64 F,vr]);clear h0 hs hR;cases R with
 |false=>
  have HC:Hid (q0V e F r st=[]):=qa (by unfold q0V;rw[<-HR.o];rfl);go_enter func28,ntmps28
  go_wp2_with((with_reducible go_at_call 60);refine HRT.o.mono ?_;rintro en w1 ⟨rfl,x1,rfl⟩)
  go_ret;exact⟨_,rfl,by rw[HC.o];exact Own.nil _ _ _,HA.o.trans ((aE _ x1).mono HA.o.size)⟩
 |true=>
  have HN:=qa (rA HR.o.symm);have HC:Hid (q0V e F r st=nD e.length (Rch e (On (uI e.length st)))):=qa (by unfold q0V;rw[<-HR.o,q27];rfl);go_enter func28,ntmps28
  go_upto_region 3 with((with_reducible go_at_call 60);refine HRT.o.mono ?_;rintro en w1 ⟨rfl,x1,rfl⟩)
  have HB1:=qa (HA.o.trans ((aE _ x1).mono HA.o.size));have qdn:=qa (HBX.o.up (aE _ x1));clear HA HBX HRT;generalize ext (w.alloc (.cells #[ve,.int .i64 F,vr] 35)) x1=w1 at*
  have HBQ:Hid (∀w',(∃y,w'=ext w1 y)->∀c,c<3->w'.cell? ⟨w.heap.size,0+c,none⟩=some ((#[ve,.int .i64 F,vr]:Array Value).getD c undef)):=qa (by
   rintro w' ⟨y,rfl⟩;exact pR (qdn.o.up (aE _ y)))
  have HMK:=qa (q8k ((HH.o.up HB1.o).up (aP w1)) (by have:=HN.o;omega) ((HS.o.up HB1.o).up (aP w1)));refine aR [0,1,2] [3] [4,5] (by kernel_rfl) (by kernel_rfl) ?_;simp only[pk]
  repeat(first|(go_big_quiet_want;refine cB 35 3 _ rfl w.heap.size 0 rfl #[ve,.int .i64 F,vr] rfl HBQ.o _ underlying35 rfl (by kernel_rfl) ?_;go_simp;go_big_quiet_on)|go_big_quiet_step (fail))
  refine wpQuiet_nil ?_;unfold aF
  go_wp2_with((with_reducible go_at_call 64);refine HMK.o.mono ?_;rintro en w2 ⟨u,rfl,ho,hb⟩;have HO:=qa ho;have HB2:=qa hb;clear ho hb)
  have HSP:=qa (q4t (w0:=w) HH.o ((HB1.o.trans ((aP w1).mono HB1.o.size)).trans (HB2.o.mono (by simpa using HB1.o.size))) HR.o.symm (HO.o.mono (by simpa using HB1.o.size)) (wW _ _));refine⟨aJ ((aP w1).trans HB2.o),?_⟩;unfold aF;unfold aF
  go_wp2_with((with_reducible go_at_call 63);refine HSP.o.mono ?_;rintro en w3 ⟨u3,rfl,ho,hb⟩;have HO3:=qa ho;have HB3:=qa hb;clear ho hb)
  refine⟨trivial,?_⟩;unfold aF;go_wp2;refine⟨trivial,?_⟩;unfold aF;go_wp2;go_ret;exact⟨_,rfl,by rw[HC.o];exact HO3.o,HB3.o⟩
def By1(e:List (List Ed))(a c b:Nat):Prop:=∃x∈e.getD a [],x.free=false/\pB x c=true/\x.tgt=b
theorem qaj{e:List (List Ed)}{S:Nat->Prop}{n c b:Nat}(L:List Nat)(hL:L=nD n S)(hS:∀i,S i->i<n):By e S c b↔∃q,q<L.length/\By1 e (L.getD q 0) c b:=by
 constructor
 ·rintro⟨a,ha,h⟩
  have:a∈L:=by rw[hL,i6];exact⟨hS a ha,ha⟩
  obtain⟨q,hq,rfl⟩:=jj this;exact⟨q,hq,by rw[show L.getD q 0=L[q] by simp[List.getD,hq]];exact h⟩
 rintro⟨q,hq,h⟩;have:L.getD q 0∈L:=by simp[List.getD,hq]
 rw[hL,i6,<-hL]at this;exact⟨_,this.2,h⟩
theorem qbh{w:World}{A:Array Value}{e:List (List Ed)}{F:Int}{r:List Int}(h:X4 w A e F r)(hr:dK e F r=true){v:Value}{st:List Int}(hs:eB w v st)(c:Nat)(hc:c<256):
  Calls prog 65 #[.agg A,v,.int .u8 c] w fun en w'=>∃u,en=.returned u/\Own w' w.heap.size 3 u (ints (nz (tI e st c)))/\Below w.heap.size w w':=by
 obtain⟨hhd,qdr⟩:=lD.1 hr;have hn:=rA hr;have HED:Hid (∀i,i<e.length->∀j,j<(e.getD i []).length->q0U e.length ((e.getD i []).getD j cY)=true):=qa (fun i hi j hj=>(A5.1 (qdr i hi)).2 j hj);have HH:=qa h;have HRR:=qa hr;obtain⟨ve,vr,rfl,he,-⟩:=h;obtain⟨oe,ce,be,fe,rfl,hde,hce⟩:=he.open;have qdw:=uJ hde;have hbe:=hde.hblk (by omega);have HCE:=qa hce;have HSS:=qa hs;have HSN:Hid (tI e st c=nD e.length (Rch e (By e (InL e.length st) c))):=qa rfl;obtain⟨L,hL⟩:∃L,L=nD e.length (InL e.length st):=⟨_,rfl⟩;have HLM:Hid (mQ (uI e.length st)=L):=qa (by rw[uK (wW _ _),q27,hL]);have HBI:Hid (∀b,By e (InL e.length st) c b↔∃q,q<L.length/\By1 e (L.getD q 0) c b):=qa (fun b=>qaj L hL (fun i hi=>hi.1))
 have HLT:Hid (∀q,q<L.length->L.getD q 0<e.length):=qa (fun q hq=>by
  have:L.getD q 0∈L:=by simp[List.getD,hq]
  rw[hL,i6,<-hL]at this;exact this.1)
 have hLl:L.length<=e.length:=by rw[hL];exact q23 _ _
 have HMM:=qa (fun(x:World) (hb:Below w.heap.size w x)=>q8k (w:=x) (HH.o.up hb) (by omega) (hs.up hb));have HML:Hid ((uI e.length st).length<=100000):=qa (by rw[(wW e.length st).len];omega);obtain⟨n,hn'⟩:∃n,n=e.length:=⟨_,rfl⟩;have HN:=qa hn';have hmk:=J8 (P:=prog) 27 3 (.int .i64 0) 8 n underlying27 (by kernel_rfl) rfl (by decide) (by omega);rw[<-hn']at hn HED qdw HCE HSN HLM HBI HLT hLl HMM HML⊢;have hA:=aD w (.cells #[.slice oe n ce,.int .i64 F,vr] 35);have HBX:=qa (by simpa using cN w 0 #[.slice oe n ce,.int .i64 F,vr] 35 (by simp) (qd _):Own (w.alloc (.cells #[.slice oe n ce,.int .i64 F,vr] 35)) 0 35 (.slice (some ⟨w.heap.size,0,none⟩) 3 3) [.slice oe n ce,.int .i64 F,vr]);have hsz:(w.alloc (.cells #[.slice oe n ce,.int .i64 F,vr] 35)).heap.size=w.heap.size+1:=by simp
 have HO:=qa (yR (w.alloc (.cells #[.slice oe n ce,.int .i64 F,vr] 35)) (w.heap.size+1) 3 (.int .i64 0) n (by simp) (by omega));rw[hsz]at HO;have hA2:=aD (w.alloc (.cells #[.slice oe n ce,.int .i64 F,vr] 35)) (.cells (madeCells #[.int .i64 0] n) 3);have qcP:=qa (HBX.o.up hA2);have HB2:=qa (hA.trans (hA2.mono hA.size));have qcH:((w.alloc (.cells #[.slice oe n ce,.int .i64 F,vr] 35)).alloc (.cells (madeCells #[.int .i64 0] n) 3)).heap.size=w.heap.size+2:=by simp
 clear hs hhd qdr hr he hde hce hL hn' hA hA2 HBX hsz;go_enter func65,ntmps65
 go_upto_region 2 with fail
 generalize (w.alloc (.cells #[.slice oe n ce,.int .i64 F,vr] 35)).alloc (.cells (madeCells #[.int .i64 0] n) 3)=w2 at*;have HMK:=qa (HMM.o w2 HB2.o)
 go_upto_region 3 with(first
  |(refine aH rfl 35 _ rfl w.heap.size 0 3 rfl #[.slice oe n ce,.int .i64 F,vr] _ (pR qcP.o) rfl underlying35 rfl (by kernel_rfl) ?_)
  |((with_reducible go_at_call 64);refine HMK.o.mono ?_;rintro en w3 ⟨u3,rfl,ho,hb⟩;have HO3:=qa ho;have HB3:=qa hb;clear ho hb)
  |((with_reducible go_at_call 83);refine(q1b HO3.o.sl HML.o).mono ?_;rintro en w4 ⟨u4,rfl,ho,hb⟩;rw[HLM.o]at ho;have HO4:=qa ho;have HB4:=qa (HB3.o.trans (hb.mono HB3.o.size));obtain⟨ol,cl,gl,rfl,hdl,hgl,hcl,-⟩:=ho.cases;rw[show(ints (nz L)).length=L.length by simp[nz]]at*;clear ho hb))
 have HW4:=qa (HB2.o.trans (HB4.o.mono (by omega)));have HX4:=qa (qcP.o.up HB4.o);have HM4:=qa (by simpa[q26]using HO.o.up HB4.o:Own w4 (w.heap.size+1) 3 (.slice (some ⟨w.heap.size+1,0,none⟩) n n) (ints (List.replicate n 0)));have HCL:Hid (∀i,i<L.length->w4.cell? ⟨gl,i,none⟩=some (.int .i64 ((L.getD i 0:Nat):Int))):=qa (fun i hi=>by rw[hcl i hi,fF _ _ (by simpa[nz]using hi),zU _ _ hi]);have qev:=fun(W:World) (i:Nat) (hi:i<L.length)=>aT (P:=prog) 27 3 underlying27 (by kernel_rfl) hdl W .i64 i (by omega) (by omega);simp only[qD,qI]at qev;have HGL:Hid (0<L.length->gl<w4.heap.size/\w.heap.size+2<=gl):=qa (fun hp=>⟨hdl.hblk hp,by have:=(hgl hp).2;have:=HB3.o.size;omega⟩);have hml:=hdl.len;obtain⟨ll,hll⟩:∃ll,ll=L.length:=⟨_,rfl⟩;have HLL:=qa hll;rw[<-hll]at qev HGL HCL hml hLl HBI HLT⊢;have HWO:Hid (w.heap.size+2<=w4.heap.size):=qa (by have:=HB4.o.size;omega);clear HMK HO qcP HB2 HO3 HB3 HO4 hdl hgl hcl HB4 HLM HML HMM hmk hll qcH
 go_loopg [21] ll (fun gk iv wr=>∃(i:Nat) (m:List Int),iv=.int .i64 i/\i<=ll/\Own wr (w.heap.size+1) 3 (.slice (some ⟨w.heap.size+1,0,none⟩) n n) (ints m)/\mC n m/\(∀b,On m b↔∃q,q<i/\By1 e (L.getD q 0) c b)/\w4.grownBy wr (some (w.heap.size+1))/\gk=ll-i)
 case atStart=>exact⟨0,_,rfl,qd _,HM4.o,A7 n,fun b=>⟨fun h=>absurd h (q4s n b),fun⟨q,h,_⟩=>absurd h (qC q)⟩,dL _ _,rfl⟩
 case round=>
  obtain⟨i,m,rfl,hi,hm,qfo,hon,hgr,rfl⟩:=hrel;have HM:=qa hm;have HBT:=qa qfo;have HON:=qa hon;have HG:=qa hgr;have HW:Hid (Below w.heap.size w wr):=qa (HW4.o.grown hgr HW4.o.size (fun k hk=>by cases hk;omega));have HX:=qa (HX4.o.keep hgr (.inr (fun e=>by have:w.heap.size=w.heap.size+1:=qr e;omega)));clear hm qfo hon hgr HM4;have x0:=HX.o.cell (i:=0) (by simp);simp only[ja]at x0;have hwx:w.heap.size<wr.heap.size:=HX.o.blk.2;by_cases hlt:i<ll
  ·have hgl:=HGL.o (by omega)
   have hcl:=(World.cell?_of_block (a:=⟨gl,i,none⟩) (HG.o.block gl hgl.1 (fun e=>by have:gl=w.heap.size+1:=qr e;omega))).trans (HCL.o i hlt);have qfY:gl<wr.heap.size:=by have:=HG.o.size;omega
   have qk7:=fun W=>qev W i hlt;obtain⟨s,hs⟩:∃s,s=L.getD i 0:=⟨_,rfl⟩;have HS:=qa hs;have hsn:s<n:=by rw[hs];exact HLT.o i hlt
   rw[<-hs]at hcl;obtain⟨oi,ci,bi,fi,hrow,hdi,hcell⟩:=HCE.o s hsn;have qda:=(HW.o.cell (p:=⟨be,fe+s,none⟩) hbe).trans hrow;have qdL:be<wr.heap.size:=by have:=HW.o.size;omega
   have qe9:=fun W=>qdw W s hsn;have qcB:=s9 hdi;have hbi:=hdi.hblk;have hmi:=hdi.len;have HCI:=qa hcell;have qep:=qa (HED.o s hsn);obtain⟨row,hrw⟩:∃row,row=e.getD s []:=⟨_,rfl⟩;have HRO:=qa hrw;rw[<-hrw]at qda qcB hbi hmi HCI qep;obtain⟨ln,hln⟩:∃ln,ln=row.length:=⟨_,rfl⟩;have HLN:=qa hln;rw[<-hln]at qda qcB hbi hmi HCI qep;clear hs hrow hdi hcell hrw hln hgl;go_wp2;have HMO:=HM;have HGO:=HG;have qjs:=HBT;clear HM HX HG HW qda qdL x0 hwx hcl qfY HBT;generalize wr=wo at*
   go_loopg [31] ln (fun gk jv wr=>∃(j:Nat) (m':List Int),jv=.int .i64 j/\j<=ln/\Own wr (w.heap.size+1) 3 (.slice (some ⟨w.heap.size+1,0,none⟩) n n) (ints m')/\mC n m'/\(∀b,On m' b↔On m b\/∃q,q<j/\(row.getD q cY).free=false/\pB (row.getD q cY) c=true/\(row.getD q cY).tgt=b)/\w4.grownBy wr (some (w.heap.size+1))/\gk=ln-j)
   case atStart=>exact⟨0,m,rfl,qd _,HMO.o,qjs.o,fun b=>⟨.inl,fun h=>h.elim id (fun⟨q,h,_⟩=>absurd h (qC q))⟩,HGO.o,rfl⟩
   case round=>
    obtain⟨j,m',rfl,hj,hm,qfo,hon,hgr,rfl⟩:=hrel;have HM:=qa hm;have HBT:=qa qfo;have qe1:=qa hon;have HG:=qa hgr;have HW:Hid (Below w.heap.size w wr):=qa (HW4.o.grown hgr HW4.o.size (fun k hk=>by cases hk;omega));have qid:=HM.o.blk.2;clear hm qfo hon hgr HMO HGO qjs;by_cases hlt:j<ln
    ·obtain⟨ed,hed⟩:∃ed,ed=row.getD j cY:=⟨_,rfl⟩
     have HEE:=qa hed;have qdK:=hbi (by omega)
     have HCD:Hid (∀c,c<6->wr.cell? ⟨bi,fi+j*6+c,none⟩=some ((edA ed).getD c undef)):=qa (fun c hcl=>by
      rw[HW.o.cell (p:=⟨bi,fi+j*6+c,none⟩) qdK,HCI.o j hlt c hcl,R8,hed])
     have hok:=qep.o j hlt;rw[<-hed]at hok;obtain⟨tq,fr',a,b,c',d⟩:=ed;unfold edA at HCD;simp only at HCD;have ht:0<=tq/\tq<n:=by unfold q0U at hok;simp at hok;omega
     obtain⟨t,rfl⟩:=jH ht.1;have htn:t<n:=by omega
     have qdX:=fun W=>qcB W j hlt;have HA6:=qa (aD wr (.cells #[.int .i64 t,.bool fr',.int .u64 a,.int .u64 b,.int .u64 c',.int .u64 d] 114));have HG6:=qa (aL HG.o (aK HA6.o _));have HM6:=qa (HM.o.up HA6.o)
     have qek:Hid ((fr'=true\/pB ⟨(t:Int),fr',a,b,c',d⟩ c=false)->∀bb,On m' bb↔On m bb\/∃q,q<j+1/\(row.getD q cY).free=false/\pB (row.getD q cY) c=true/\(row.getD q cY).tgt=bb):=qa (fun hno bb=>by
      rw[qe1.o bb];refine or_congr Iff.rfl ⟨fun⟨q,h1,h2⟩=>⟨q,by omega,h2⟩,fun⟨q,h1,h2,h3,h4⟩=>?_⟩;by_cases hqj:q=j
      ·rw[hqj,<-HEE.o]at h2 h3
       rcases hno with hno|hno
       ·rw[hno]at h2;cases h2
       rw[hno]at h3;cases h3
      exact⟨q,by omega,h2,h3,h4⟩)
     have HHS:=qa (fun(x:World)=>q25 (w:=x) ⟨(t:Int),fr',a,b,c',d⟩ c hc);clear hed hok ht;cases fr' with
     |true=>
      go_wp2_with(refine aH rfl 114 _ rfl bi (fi+j*6) 6 rfl _ _ HCD.o rfl underlying114 rfl (by kernel_rfl) ?_)
      go_roundg (ln-(j+1))
      case measure=>omega
      case rel=>exact⟨j+1,m',by go_num,by omega,HM6.o,HBT.o,qek.o (.inl (by trivial)),HG6.o,rfl⟩
     |false=>
      obtain⟨hv,hhv⟩:∃hv,hv=pB ⟨(t:Int),false,a,b,c',d⟩ c:=⟨_,rfl⟩;have HHV:=qa hhv;rw[<-hhv]at qek HHS;clear hhv;cases hv with
      |false=>
       go_wp2_with(first|(refine aH rfl 114 _ rfl bi (fi+j*6) 6 rfl _ _ HCD.o rfl underlying114 rfl (by kernel_rfl) ?_)|((with_reducible go_at_call 71);refine(HHS.o _).mono ?_;rintro en w7 ⟨rfl,x7,rfl⟩))
       go_roundg (ln-(j+1))
       case measure=>omega
       case rel=>exact⟨j+1,m',by go_num,by omega,HM6.o.up (aE _ x7),HBT.o,qek.o (.inr (by trivial)),aL HG6.o (aK (aE _ x7) _),rfl⟩
      |true=>
       have qgC:=fun W=>aT (P:=prog) 27 3 underlying27 (by kernel_rfl) (show Hd wr (some ⟨w.heap.size+1,0,none⟩) n n (w.heap.size+1) 0 from⟨fun _=>rfl,qb _,by simp only[maxLen];omega,by omega,fun _=>qid⟩) W .i64 t (by omega) (by omega);simp only[qD,qI]at qgC;have hfr:=HM.o.free t;have qjF:∀x7,(ext (wr.alloc (.cells #[.int .i64 t,.bool false,.int .u64 a,.int .u64 b,.int .u64 c',.int .u64 d] 114)) x7).heap.size≥wr.heap.size+1:=fun x7=>by have:=(aE (wr.alloc (.cells #[.int .i64 t,.bool false,.int .u64 a,.int .u64 b,.int .u64 c',.int .u64 d] 114)) x7).size;simp at this;omega
       go_wp2_with(first|(refine aH rfl 114 _ rfl bi (fi+j*6) 6 rfl _ _ HCD.o rfl underlying114 rfl (by kernel_rfl) ?_)|((with_reducible go_at_call 71);refine(HHS.o _).mono ?_;rintro en w7 ⟨rfl,x7,rfl⟩;have hsx:=qjF x7;have qm8:=(HM6.o.up (aE _ x7)).free t;have qmf:=(HM6.o.up (aE _ x7)).cell (i:=t) (by rw[aS,HBT.o.len];exact htn)))
       go_roundg (ln-(j+1))
       case measure=>omega
       case rel=>
        have hst:=(HM6.o.up (aE _ x7)).store t (.int .i64 1);refine⟨j+1,m'.set t 1,by go_num,by omega,by rw[<-yY];exact hst.1,yX HBT.o t,fun bb=>?_,aL (aL HG6.o (aK (aE _ x7) _)) hst.2,rfl⟩;rw[q24 HBT.o htn,qe1.o bb]
        constructor
        ·rintro(rfl|h|⟨q,h1,h2⟩)
         ·exact .inr ⟨j,by omega,by rw[<-HEE.o],by rw[<-HEE.o,HHV.o],by rw[<-HEE.o]⟩
         ·exact .inl h
         exact .inr ⟨q,by omega,h2⟩
        rintro(h|⟨q,h1,h2,h3,h4⟩)
        ·exact .inr (.inl h)
        by_cases hqj:q=j
        ·rw[hqj,<-HEE.o]at h4
         exact .inl (jr h4).symm
        exact .inr (.inr ⟨q,by omega,h2,h3,h4⟩)
    go_wp2
    go_roundg (ll-(i+1))
    case measure=>omega
    case rel=>
     refine⟨i+1,m',by go_num,by omega,HM.o,HBT.o,fun b=>?_,HG.o,rfl⟩;rw[qe1.o b,HON.o b]
     constructor
     ·rintro(⟨q,h1,h2⟩|⟨q,h1,h2,h3,h4⟩)
      ·exact⟨q,by omega,h2⟩
      refine⟨i,by omega,row.getD q cY,?_,h2,h3,h4⟩;rw[<-HS.o,<-HRO.o];have:=HLN.o;simp[List.getD,show q<row.length by omega]
     rintro⟨q,h1,h2⟩;by_cases hqi:q=i
     ·subst hqi
      obtain⟨x,hx,h3,h4,h5⟩:=h2;rw[<-HS.o,<-HRO.o]at hx;obtain⟨p,hp,rfl⟩:=jj hx;have hg:row.getD p cY=row[p]:=by simp[List.getD,hp]
      exact .inr ⟨p,by have:=HLN.o;omega,by rw[hg];exact h3,by rw[hg];exact h4,by rw[hg];exact h5⟩
     exact .inl ⟨q,by omega,h2⟩
  have hie:i=ll:=by omega
  subst hie;have HOS:Hid (On m=By e (InL n st) c):=qa (funext fun b=>propext ((HON.o b).trans (HBI.o b).symm));have HSP:=qa (q4t (w0:=w) HH.o HW.o HRR.o (HM.o.mono (jd _)) (by rw[<-HN.o];exact HBT.o));rw[<-HN.o,HOS.o]at HSP
  go_wp2_with(first
   |(refine aH rfl 35 _ rfl w.heap.size 0 3 rfl #[.slice oe n ce,.int .i64 F,vr] _ (pR HX.o) rfl underlying35 rfl (by kernel_rfl) ?_)
   |((with_reducible go_at_call 63);refine HSP.o.mono ?_;rintro en w5 ⟨u5,rfl,ho,hb⟩;have HO5:=qa ho;have HB5:=qa hb;clear ho hb))
  go_ret;exact⟨_,rfl,by rw[HSN.o];exact HO5.o,HB5.o⟩
theorem qak{e:List (List Ed)}{S:Nat->Prop}(c:Nat):By e (fun i=>i<e.length/\S i) c=By e S c:=by
 funext b
 refine propext ⟨fun⟨a,⟨_,ha⟩,h⟩=>⟨a,ha,h⟩,fun⟨a,ha,x,hx,h⟩=>⟨a,⟨?_,ha⟩,x,hx,h⟩⟩;apply qi;intro hn;simp[List.getD,qQ (show e.length<=a by omega)]at hx
theorem qal(n:Nat)(P:Nat->Prop):InL n (nz (nD n P))=fun i=>i<n/\P i:=by
 funext i
 refine propext ⟨fun⟨h,h2⟩=>⟨h,?_⟩,fun h=>⟨h.1,?_⟩⟩
 ·simp only[nz,jB]at h2
  obtain⟨j,hj,e⟩:=h2;rw[i6]at hj;obtain rfl:j=i:=jr e;exact hj.2
 simp only[nz,jB];exact⟨i,i6.2 h,rfl⟩
theorem q3g(e:List (List Ed))(F:Nat)(cs:List Nat)(c:Nat):tI e (nz (nD e.length (yK e F cs))) c=nD e.length (yK e F (c::cs)):=by
 unfold tI;rw[qal,qak]
 rfl
theorem q4u{e:List (List Ed)}{F:Int}{r:List Int}(h:dK e F r=true):q0V e F r [F]=nD e.length (yK e F.toNat []):=by
 unfold q0V;rw[qw h];have hF:0<=F/\F<e.length:=by have:=jc (lD.1 h).1;omega
 have:InL e.length [F]=fun i=>i=F.toNat:=by
  funext i
  refine propext ⟨fun⟨h1,h2⟩=>by simp at h2;omega,fun h1=>⟨by omega,by simp;omega⟩⟩
 rw[this]
 rfl
def q97(e:List (List Ed))(F:Int)(r:List Int)(t:List Nat)(k:Nat):Prop:=∃x,x<e.length/\yK e F.toNat t.reverse x/\r.getD x 0=k
noncomputable def q98(e:List (List Ed))(F:Int)(r:List Int)(t:List Nat):List Nat:=if dK e F r then nD 32 (q97 e F r t)else []
theorem q7d{e:List (List Ed)}{F:Int}{r:List Int}{t:List Nat}(L:List Nat)(hL:L=nD e.length (yK e F.toNat t.reverse))(k:Nat):q97 e F r t k↔∃q,q<L.length/\r.getD (L.getD q 0) 0=k:=by
 constructor
 ·rintro⟨x,hx,h1,h2⟩
  have:x∈L:=by rw[hL,i6];exact⟨hx,h1⟩
  obtain⟨q,hq,rfl⟩:=jj this;exact⟨q,hq,by rw[show L.getD q 0=L[q] by simp[List.getD,hq]];exact h2⟩
 rintro⟨q,hq,h⟩;have:L.getD q 0∈L:=by simp[List.getD,hq]
 rw[hL,i6,<-hL]at this;exact⟨_,this.1,this.2,h⟩
end Go.Cm
namespace Go.Cm
theorem q7e(x:Nd)(hx:okN x)(h8:x.kd=8)(part:St->Pc×St)(L:Lng)(hp:∀s,mP s (part s) L)(s:St):mP s (rY x part s) (dT x.lo x.hi L):=by
 have hk:0<=x.lo/\(x.hi= -1\/x.lo<=x.hi):=by unfold okN at hx;omega
 obtain⟨t,ht⟩:∃t,t=(fA x).toNat:=⟨_,rfl⟩
 have ht2:(x.hi<0->(t:Int)=max x.lo 1)/\(0<=x.hi->(t:Int)=x.hi):=by
  unfold fA at ht;by_cases h:x.hi<0
  ·rw[qw h]at ht
   have h1:=Int.le_max_right x.lo 1;omega
  rw[qv h]at ht;omega
 have hlo:x.hi<0->x.lo<=t:=fun h=>by have:=ht2.1 h;have:=Int.le_max_left x.lo 1;omega
 have key:∀i,i<=t->qb5 s x t L i (dS x t (aN s) part (iff (decide (x.lo=0)) (bM (aN s).f (aN s).l) (two s)) i):=by
  intro i
  induction i with
  |zero=>intro _;exact q73 s x hk.1 t L
  |succ i ih=>
   intro hi;exact q74 (by omega) hlo (ih (by omega)) (hp _)
 have h:=key t (qb _);unfold rY
 dsimp only
 rw[<-ht];generalize dS x t (aN s) part (iff (decide (x.lo=0)) (bM (aN s).f (aN s).l) (two s)) t=y at*;have hg:=h.grow;refine⟨by dsimp only;omega,h.old,by dsimp only[aN];omega,by dsimp only[aN];omega,h.nol,h.inn,h.edq,fun w=>?_,h.rul⟩;show gD y.2.e s.e.length w (s.e.length+1)↔_;rw[h.pz];unfold dT;by_cases hh:x.hi<0
 ·have h1:=ht2.1 hh
  have h2:1<=t:=by have:=Int.le_max_right x.lo 1;omega
  constructor
  ·rintro(⟨k,h3,h4,h5⟩|⟨-,-,-,u,v,rfl,h5,⟨k,h6⟩⟩)
   ·exact⟨k,h4,.inl hh,h5⟩
   refine⟨(t-1)+(k+1),by have:=hlo hh;omega,.inl hh,(uG L (t-1) (k+1) _).2 ⟨u,v,rfl,h5,h6⟩⟩
  rintro⟨k,h3,-,h4⟩;by_cases h5:k<=t
  ·exact .inl ⟨k,h5,h3,h4⟩
  refine .inr ⟨rfl,hh,by omega,?_⟩;have e:k=(t-1)+((k-t)+1):=by omega
  rw[e]at h4;obtain⟨u,v,e2,h6,h7⟩:=(uG L (t-1) ((k-t)+1) w).1 h4;exact⟨u,v,e2,h6,k-t,h7⟩
 have h1:=ht2.2 (by omega)
 constructor
 ·rintro(⟨k,h3,h4,h5⟩|⟨-,h3,-⟩)
  ·exact⟨k,h4,.inr (by omega),h5⟩
  exact absurd h3 hh
 rintro⟨k,h3,h4,h5⟩;exact .inl ⟨k,by omega,h3,h5⟩
theorem mP.congr{s:St}{y:Pc×St}{L L':Lng}(h:mP s y L)(hl:∀w,L w↔L' w):mP s y L':=⟨h.grow,h.old,h.hf,h.hl,h.nol,h.inn,h.edq,fun w=>(h.lang w).trans (hl w),h.rul⟩
theorem I5.head{s:St}{y:List Pc×St}{Ls:List Lng}{bd:Nat->Nat}(h:I5 s y Ls bd)(h1:Ls.length=1):mP s (eC y) (Ls.getD 0 tF):=by
 have hb0:=h.b0;have hbc:=h.bc;have hf:=h.hf 0 (by omega);have hl:=h.hl 0 (by omega);rw[h1]at hbc;simp only[qI]at hf hl;unfold eC;refine⟨by dsimp only;omega,h.old,by dsimp only;omega,by dsimp only;omega,h.nol 0 (by omega),fun a x h2 hx=>?_,h.edq,h.lang 0 (by omega),h.rul⟩;by_cases h3:a<y.2.e.length
 ·obtain⟨b,h4,h5⟩:=h.inn 0 (by omega) a x (by omega) (by simp only[qI];omega) hx
  simp only[qI]at h5;exact⟨b,h4,by dsimp only;omega⟩
 dsimp only at hx;rw[dU (by omega)]at hx;cases hx
theorem q7f(L:Lng)(w:List Nat):((True/\w=[])\/many_NtA true L w↔dT 0 (-1) L w)/\((False/\w=[])\/many_NtA true L w↔dT 1 (-1) L w)/\((True/\w=[])\/many_NtA false L w↔dT 0 1 L w):=by
 refine⟨⟨?_,?_⟩,⟨?_,?_⟩,⟨?_,?_⟩⟩
 ·rintro(⟨-,rfl⟩|h)
  ·exact⟨0,by decide,.inl (by decide),rfl⟩
  exact ZmH3
 ·rintro⟨k,-,-,h⟩
  cases k with
  |zero=>exact .inl ⟨trivial,h⟩
  |succ k=>exact .inr ⟨k,h⟩
 ·rintro(⟨h,-⟩|h)
  ·exact h.elim
  exact ZmH3
 ·rintro⟨k,h1,-,h⟩
  cases k with
  |zero=>exact absurd h1 (by decide)
  |succ k=>exact .inr ⟨k,h⟩
 ·rintro(⟨-,rfl⟩|h)
  ·exact⟨0,by decide,.inr (by decide),rfl⟩
  exact⟨1,by decide,.inr (by decide),[],w,rfl,rfl,by simpa[many_NtA]using h⟩
 rintro⟨k,-,h1,h⟩;have hk:k=0\/k=1:=by omega
 rcases hk with rfl|rfl
 ·exact .inl ⟨trivial,h⟩
 obtain⟨u,v,rfl,rfl,hv⟩:=h;exact .inr (by simpa[many_NtA]using hv)
theorem Y7(x:Nd)(K:St->List Pc×St)(Ls:List Lng)(hx:okN x)(hq:NdQ x)(hn:x.n=Ls.length)(hK:∀s,∃bd,I5 s (K s) Ls bd)(s:St):mP s (eD x K s) (gT x Ls):=by
 have hx0:=hx;unfold okN at hx;obtain⟨bd,hk⟩:=hK s;unfold eD gT;by_cases h12:x.kd=1\/x.kd=2
 ·rw[qw h12]
  have h:=q4h x h12 hq (fun h2=>by
   rcases hx with h3|h3|h3|h3|h3
   ·omega
   ·exact h3.2.2.1
   ·omega
   ·omega
   omega) s
  refine h.congr fun w=>?_;by_cases h1:x.kd=1
  ·rw[qw h1,qw h1]
  rw[qv h1,qv h1,qw (show x.kd=2 by omega)]
 rw[qv h12,qv (show¬x.kd=1 by omega),qv (show¬x.kd=2 by omega)];by_cases h8:x.kd=8
 ·rw[qw h8,qw h8]
  exact q7e x hx0 h8 _ _ (fun s=>by
   obtain⟨bd,hk⟩:=hK s;exact hk.head (by omega)) s
 rw[qv h8,qv h8];by_cases qeA:x.kd=5\/x.kd=6\/x.kd=7
 ·rw[qw qeA]
  have h:=q4i (hk.head (by omega)) (decide (x.kd≠6)) (decide (x.kd≠7));have hlr:=q7f (Ls.getD 0 tF);refine h.congr fun w=>?_;rcases qeA with h|h|h
  ·rw[qw h]
   have:=(hlr w).1;rw[<-this];simp[h]
  ·rw[qv (show¬x.kd=5 by omega),qw h]
   have:=(hlr w).2.1;rw[<-this];simp[h]
  rw[qv (show¬x.kd=5 by omega),qv (show¬x.kd=6 by omega),qw h];have:=(hlr w).2.2;rw[<-this];simp[h]
 rw[qv qeA,qv (show¬x.kd=5 by omega),qv (show¬x.kd=6 by omega),qv (show¬x.kd=7 by omega)];by_cases h3:x.kd=3
 ·rw[qw h3,qw h3]
  exact q3a hk (by omega)
 rw[qv h3,qv h3];exact q72 hk
theorem S0:∀f,wf f->mM okN f->mM NdQ f->∀s,∃bd,I5 s (gP f s) (cG f) bd
 |.nil,_,_,_,s=>⟨_,q91 s⟩
 |.cons x k r,hw,ha,hq,s=>by
  have h1:=Y7 x (fun s=>gP k s) (cG k) ha.1 hq.1 (by rw[hw.1,r7]) (fun s=>S0 k hw.2.1 ha.2.1 hq.2.1 s) s;obtain⟨bd,h2⟩:=S0 r hw.2.2 ha.2.2 hq.2.2 (eD x (fun s=>gP k s) s).2;exact q71 h1 h2
def q4v(f:Fo):Lng:=(cG f).getD 0 tF
structure q4w(f:Fo):Prop where
 one:∃x k,f=.cons x k .nil/\okN x/\NdQ x/\x.n=cnt k/\wf k/\mM okN k/\mM NdQ k
theorem q4x{f:Fo}(h:q4w f)(s:St):mP s (zY f s) (q4v f):=by
 obtain⟨x,k,rfl,h1,h2,h3,h4,h5,h6⟩:=h.one;exact Y7 x (fun s=>gP k s) (cG k) h1 h2 (by rw[h3,r7]) (fun s=>S0 k h4 h5 h6 s) s
structure q7g(fs:List Fo)(i:Nat)(s:St)(en:Nat->Nat):Prop where
 pos:0<s.e.length
 rlen:s.r.length=s.e.length
 cls:∀a x,x∈Row s.e a->∃b:Nat,x.tgt=b/\b<s.e.length
 edq:∀a x,x∈Row s.e a->EdQ x
 enl:∀j,j<i->en j<s.e.length
 enr:∀j,j<i->s.r.getD (en j) 0=j
 res:∀a,a<s.e.length->s.r.getD a 0= -1\/∃j,j<i/\a=en j
 zero:∀w,gD s.e 0 w 0↔w=[]
 lang:∀j,j<i->∀w,gD s.e 0 w (en j)↔q4v (fs.getD j .nil) w
theorem Y8(fs:List Fo)(hf:∀j,j<fs.length->q4w (fs.getD j .nil)):∀i,i<=fs.length->∃en,q7g fs i (mkF fs i) en
 |0,_=>by
  have h0:∀a,Row (dR ⟨[],[]⟩).e a=[]:=fun a=>by
   rw[R4];rfl
  refine⟨fun _=>0,by simp[mkF,dR],by simp[mkF,dR],fun a x hx=>?_,fun a x hx=>?_,fun j hj=>absurd hj (qC j),fun j hj=>absurd hj (qC j),fun a ha=>.inl ?_,fun w=>⟨fun hp=>(tH (h0 0) hp).2,fun e=>e▸.nil⟩,fun j hj=>absurd hj (qC j)⟩
  ·rw[show mkF fs 0=dR ⟨[],[]⟩from rfl,h0]at hx;cases hx
  ·rw[show mkF fs 0=dR ⟨[],[]⟩from rfl,h0]at hx;cases hx
  obtain rfl:a=0:=by simp[mkF,dR]at ha;omega
  rfl
 |i+1,hi=>by
  obtain⟨en,h⟩:=Y8 fs hf i (by omega);have hT:=q4x (hf i (by omega)) (mkF fs i);have hstep:mkF fs (i+1)=⟨(bM 0 (zY (fs.getD i .nil) (mkF fs i)).1.f (zY (fs.getD i .nil) (mkF fs i)).2).e,(zY (fs.getD i .nil) (mkF fs i)).2.r.set (zY (fs.getD i .nil) (mkF fs i)).1.l (i:Int)⟩:=rfl;rw[hstep];generalize zY (fs.getD i .nil) (mkF fs i)=y at*;generalize mkF fs i=s at*;obtain⟨q,v⟩:=y;have qcL:=h.pos;have hg:=hT.grow;have hqf:=hT.hf;have hql:=hT.hl
  dsimp only at hg hqf hql⊢
  have hm:∀a z,z∈Row (bM 0 q.f v).e a↔z∈Row v.e a\/(a=0/\z=yT q.f):=fun a z=>pC (by omega) z;have hlen:(bM 0 q.f v).e.length=v.e.length:=eQ _ _ _
  have hE:Ext (fun a=>a<s.e.length) (fun a=>s.e.length<=a/\a<v.e.length) s.e v.e (bM 0 q.f v).e q.f q.l 0 0 false false:=by
   refine⟨fun a x _ hx=>h.cls a x hx,fun a x hb hx=>hT.inn a x hb.1 hx,fun a h1 h2=>by omega,qcL,hqf,hql,fun hc=>absurd hc (by decide),fun a x hd=>?_,fun a x hb=>?_⟩
   ·have h0:Row v.e a=Row s.e a:=hT.old a hd
    rw[hm,h0]
   rw[hm]
   constructor
   ·rintro(h1|⟨h1,-⟩)
    ·exact .inl h1
    omega
   rintro(h1|⟨-,⟨h1,-⟩|⟨h1,-⟩⟩)
   ·exact .inl h1
   ·cases h1
   cases h1
  have hL:=hT.lang
  dsimp only at hL
  have qgt:=hT.rul
  dsimp only at qgt
  have hrl:=h.rlen;have hvr:v.r.length=v.e.length:=by rw[qgt];simp;omega
  have qdY:∀a,(v.r.set q.l (i:Int)).getD a 0=if a=q.l then(i:Int)else if a<s.e.length then s.r.getD a 0 else if a<v.e.length then -1 else 0:=fun a=>by
   simp only[qu,jQ];by_cases ha:q.l=a
   ·rw[qw ha,qw (by omega),qw ha.symm];rfl
   rw[qv ha,qv (fun e=>ha e.symm),qgt];by_cases h1:a<s.e.length
   ·rw[qw h1,qW (by omega)]
   rw[qv h1,ji (by omega),jT];by_cases h2:a<v.e.length
   ·rw[qw h2,qw (by omega)];rfl
   rw[qv h2,qv (by omega)];rfl
  refine⟨fun j=>if j=i then q.l else en j,by dsimp only;omega,by dsimp only;simp;omega,fun a x hx=>?_,fun a x hx=>?_,fun j hj=>?_,fun j hj=>?_,fun a ha=>?_,fun w=>?_,fun j hj w=>?_⟩
  ·dsimp only at hx⊢
   rw[hlen];by_cases ha:a<v.e.length
   ·obtain⟨b,h1,h2⟩:=hE.closed a x (by omega) hx
    exact⟨b,h1,by omega⟩
   rw[dU (by omega)]at hx;cases hx
  ·dsimp only at hx
   rcases(hm a x).1 hx with h1|⟨-,rfl⟩
   ·by_cases h3:a<s.e.length
    ·have h0:Row v.e a=Row s.e a:=hT.old a h3
     rw[h0]at h1;exact h.edq a x h1
    exact hT.edq a x (by omega) h1
   exact iR _
  ·dsimp only
   rw[hlen];by_cases hj':j=i
   ·rw[qw hj'];omega
   rw[qv hj'];have:=h.enl j (by omega);omega
  ·dsimp only
   rw[qdY];by_cases hj':j=i
   ·rw[qw hj',qw rfl,hj']
   have h1:=h.enl j (by omega);rw[qv hj',qv (by omega),qw h1];exact h.enr j (by omega)
  ·dsimp only at ha⊢
   rw[hlen]at ha;rw[qdY];by_cases h1:a=q.l
   ·right;exact⟨i,by omega,by rw[qw rfl];exact h1⟩
   rw[qv h1];by_cases h2:a<s.e.length
   ·rw[qw h2]
    rcases h.res a h2 with h3|⟨j,h3,h4⟩
    ·exact .inl h3
    exact .inr ⟨j,by omega,by rw[qv (by omega)];exact h4⟩
   rw[qv h2,qw ha];exact .inl rfl
  ·dsimp only
   rw[hE.old hL qcL qcL (fun _=>rfl)];exact h.zero w
  dsimp only
  by_cases hj':j=i
  ·rw[qw hj',hj',hE.toL hL qcL]
   constructor
   ·rintro⟨u,v',rfl,h1,h2⟩
    obtain rfl:=(h.zero u).1 h1;simpa[many_NtA]using h2
   intro h1;exact⟨[],w,rfl,.nil,by simpa[many_NtA]using h1⟩
  rw[qv hj',hE.old hL qcL (h.enl j (by omega)) (fun _=>rfl)];exact h.lang j (by omega) w
theorem wX(e:List (List Ed))(F:Nat):∀(cs:List Nat) (b:Nat),yK e F cs b↔gD e F cs.reverse b
 |[],b=>by
  constructor
  ·intro h
   have key:∀b,Rch e (fun i=>i=F) b->gD e F [] b:=by
    intro b hb
    induction hb with
    |base h=>subst h;exact .nil
    |step _ h2 ih=>
     obtain⟨x,hx,hf,ht⟩:=h2;exact .free ih hx hf ht
   exact key b h
  intro h
  have key:∀w b,gD e F w b->w=[]->Rch e (fun i=>i=F) b:=by
   intro w b hp
   induction hp with
   |nil=>intro _;exact .base rfl
   |free _ k1 k2 k3 ih=>intro hw;exact .step (ih hw) ⟨_,k1,k2,k3⟩
   |byte _ _ _ _ _ _=>intro hw;simp at hw
  exact key _ b h rfl
 |c::cs,b=>by
  have ih:=wX e F cs;rw[List.reverse_cons]
  constructor
  ·intro h
   have key:∀b,Rch e (By e (yK e F cs) c) b->gD e F (cs.reverse++[c]) b:=by
    intro b hb
    induction hb with
    |base h=>
     obtain⟨a,ha,x,hx,hf,hh,ht⟩:=h;exact .byte ((ih a).1 ha) hx hf hh ht
    |step _ h2 ih=>
     obtain⟨x,hx,hf,ht⟩:=h2;exact .free ih hx hf ht
   exact key b h
  intro h
  have key:∀w b,gD e F w b->w=cs.reverse++[c]->Rch e (By e (yK e F cs) c) b:=by
   intro w b hp
   induction hp with
   |nil=>intro hw;simp at hw
   |free _ k1 k2 k3 ih=>intro hw;exact .step (ih hw) ⟨_,k1,k2,k3⟩
   |byte h0 k1 k2 k3 k4 _=>
    intro hw;obtain⟨rfl,h2⟩:=List.append_inj' hw rfl;obtain rfl:_=c:=by simpa using h2
    exact .base ⟨_,(ih _).2 h0,_,k1,k2,k3,k4⟩
  exact key _ b h rfl
theorem q4y{fs:List Fo}{i:Nat}{s:St}{en:Nat->Nat}(h:q7g fs i s en)(t:List Nat)(k:Nat):q97 s.e 0 s.r t k↔k<i/\q4v (fs.getD k .nil) t:=by
 unfold q97
 constructor
 ·rintro⟨x,hx,h1,h2⟩
  rcases h.res x hx with h3|⟨j,h3,rfl⟩
  ·omega
  have h4:=h.enr j h3;obtain rfl:j=k:=by omega
  refine⟨h3,(h.lang j h3 t).1 ?_⟩;have:=(wX s.e 0 t.reverse (en j)).1 h1;rwa [List.reverse_reverse]at this
 rintro⟨h1,h2⟩;refine⟨en k,h.enl k h1,?_,h.enr k h1⟩;have:=(wX s.e 0 t.reverse (en k)).2 (by rw[List.reverse_reverse];exact(h.lang k h1 t).2 h2);exact this
theorem q3h{fs:List Fo}{i:Nat}{s:St}{en:Nat->Nat}(h:q7g fs i s en)(hi:i<=32)(hl:s.e.length<=3000):dK s.e 0 s.r=true:=by
 have hp:=h.pos;have hr:=h.rlen;refine lD.2 ⟨qz ⟨by omega,hl,hr,by omega,by omega⟩,fun a ha=>A5.2 ⟨?_,fun j hj=>?_⟩⟩
 ·rcases h.res a ha with h1|⟨j,h1,rfl⟩
  ·omega
  have:=h.enr j h1;omega
 have qcx:(s.e.getD a []).getD j cY∈Row s.e a:=by
  show _∈s.e.getD a [];generalize s.e.getD a []=row at*;simp[List.getD,hj]
 obtain⟨b,h1,h2⟩:=h.cls a _ qcx;have h3:=(h.edq a _ qcx).1;unfold q0U;rw[qK,jX];refine⟨by omega,?_⟩;cases hf:((s.e.getD a []).getD j cY).free with
 |false=>rfl
 |true=>simpa using h3 hf
def emT:Nd:=⟨2,0,0,0,0,0,0,0⟩
def noT:Nd:=⟨1,0,0,0,0,0,0,0⟩
abbrev Tm:=Nd×Fo
def gL:Tm:=(emT,.nil)
def iG:Tm:=(noT,.nil)
def one(t:Tm)(r:Fo):Fo:=.cons t.1 t.2 r
def iE:Fo->Fo->Fo
 |.nil,g=>g
 |.cons x k r,g=>.cons x k (iE r g)
def kG(x:Nd):Bool:=decide (x.kd=1/\x.a=0/\x.b=0/\x.c=0/\x.d=0)
def gU(kd:Int):Fo->Fo
 |.nil=>.nil
 |.cons x k r=>if x.kd=kd then iE k (gU kd r)else .cons x k (gU kd r)
def wY:Fo->Option Fo
 |.nil=>some .nil
 |.cons x k r=>if kG x then none else(wY r).map (fun q=>if x.kd=2 then q else .cons x k q)
def q3i(kd:Int)(f:Fo):Tm:=(⟨kd,cnt f,0,0,0,0,0,0⟩,f)
def uL(kd:Int)(z:Tm):Fo->Tm
 |.nil=>z
 |.cons x k .nil=>(x,k)
 |f=>q3i kd f
def nZ(l:Fo):Tm:=match wY (gU 3 l)with
 |none=>iG
 |some f=>uL 3 gL f
def eV(t:Tm):Lng:=gT t.1 (cG t.2)
def gV:List Lng->Lng
 |[]=>eps
 |A::r=>cat A (gV r)
theorem K9(A B:List Lng)(w:List Nat):gV (A++B) w↔cat (gV A) (gV B) w:=by
 induction A generalizing w with
 |nil=>exact(R3 _ w).symm
 |cons a A ih=>
  rw[show cat (gV (a::A)) (gV B) w↔cat a (cat (gV A) (gV B)) w from Y5 _ _ _ w];exact eF (fun _=>Iff.rfl) ih w
theorem Y9(Ls:List Lng):∀i,i<=Ls.length->∀w,q19 Ls i w↔gV (Ls.take i) w
 |0,_,w=>Iff.rfl
 |i+1,h,w=>by
  have hi:i<Ls.length:=h
  have e:Ls.take (i+1)=Ls.take i++[Ls.getD i tF]:=by
   rw[List.take_add_one,qy hi];simp[List.getD,hi]
  rw[e,K9];show cat (q19 Ls i) (Ls.getD i tF) w↔_;exact eF (Y9 Ls i (by omega)) (fun w=>(zZ _ w).symm) w
theorem A8:∀f g,cG (iE f g)=cG f++cG g
 |.nil,_=>rfl
 |.cons x k r,g=>by rw[iE,cG,cG,A8 r g];rfl
theorem yZ(x:Nd)(Ls:List Lng)(h:x.kd=3)(w:List Nat):gT x Ls w↔gV Ls w:=by
 unfold gT;rw[qv (by omega),qv (by omega),qv (by omega),qv (by omega),qv (by omega),qv (by omega),qw h];rw[Y9 Ls _ (qb _),j3]
theorem nP(x:Nd)(Ls:List Lng)(h:x.kd=2)(w:List Nat):gT x Ls w↔w=[]:=by
 unfold gT;rw[qv (by omega),qw h];exact Iff.rfl
theorem iK(x:Nd)(Ls:List Lng)(h:kG x=true)(w:List Nat):¬gT x Ls w:=by
 obtain⟨h1,ha,hb,hc,hd⟩:=jc h;unfold gT;rw[qw h1];rintro⟨c,-,hc2⟩;unfold pB dM at hc2;simp[ha,hb,hc,hd]at hc2
theorem B0:∀f w,gV (cG (gU 3 f)) w↔gV (cG f) w
 |.nil,w=>Iff.rfl
 |.cons x k r,w=>by
  rw[gU];split
  ·rename_i h
   rw[A8,K9,cG];exact eF (fun w=>(yZ x _ h w).symm) (B0 r) w
  rw[cG,cG];exact eF (fun _=>Iff.rfl) (B0 r) w
theorem Z0:∀f w,(match wY f with|none=>False|some g=>gV (cG g) w)↔gV (cG f) w
 |.nil,w=>Iff.rfl
 |.cons x k r,w=>by
  rw[wY,cG];by_cases hd:kG x=true
  ·rw[qw hd]
   exact⟨fun h=>h.elim,fun⟨u,v,_,hu,_⟩=>iK x _ hd u hu⟩
  rw[qv hd];have ih:=Z0 r;cases hr:wY r with
  |none=>
   rw[hr]at ih;exact⟨fun h=>h.elim,fun⟨u,v,_,_,hv⟩=>(ih v).2 hv⟩
  |some g=>
   have ih':∀w,gV (cG g) w↔gV (cG r) w:=fun w=>by
    have h:=ih w;rw[hr]at h;exact h
   simp only[jP];by_cases h2:x.kd=2
   ·rw[qw h2]
    rw[ih' w];exact((R3 _ w).symm).trans (eF (fun w=>(nP x _ h2 w).symm) (fun _=>Iff.rfl) w)
   rw[qv h2,cG];exact eF (fun _=>Iff.rfl) ih' w
theorem q4z(f:Fo)(w:List Nat):eV (uL 3 gL f) w↔gV (cG f) w:=by
 match f with
 |.nil=>exact nP emT _ rfl w
 |.cons x k .nil=>
  show gT x (cG k) w↔cat (gT x (cG k)) eps w;exact(zZ _ w).symm
 |.cons x k (.cons y j r)=>exact yZ _ _ rfl w
theorem Z1(f:Fo)(w:List Nat):eV (nZ f) w↔gV (cG f) w:=by
 rw[<-B0 f w,<-Z0 (gU 3 f) w];unfold nZ;cases wY (gU 3 f)with
 |none=>exact⟨fun h=>iK noT _ rfl w h,fun h=>h.elim⟩
 |some g=>exact q4z g w
def b8(z:Int):Nat:=(z%256).toNat
def l9(z:Int):List Nat:=(List.range 8).map fun i=>z.toNat/256^i%256
def pD(x:Nd):List Nat:=(48+x.kd).toNat::((if x.kd=1 then l9 x.a++l9 x.b++l9 x.c++l9 x.d else [])++[b8 x.lo,b8 x.hi,40])
def txF:Fo->List Nat
 |.nil=>[]
 |.cons x k r=>pD x++(txF k++41::txF r)
def OkT(x:Nd):Prop:=(1<=x.kd/\x.kd<=8)/\(x.kd≠1->x.a=0/\x.b=0/\x.c=0/\x.d=0)/\NdQ x/\(-1<=x.lo/\x.lo<=30)/\(-1<=x.hi/\x.hi<=30)
theorem oD(z:Int):(l9 z).length=8:=by simp[l9]
theorem q28{a b:Int}(ha: -1<=a/\a<=30)(hb: -1<=b/\b<=30)(h:b8 a=b8 b):a=b:=by
 unfold b8 at h;omega
theorem uM{a b:Int}(ha:WQ a)(hb:WQ b)(h:l9 a=l9 b):a=b:=by
 obtain⟨a,rfl⟩:=jH ha.1;obtain⟨b,rfl⟩:=jH hb.1;have ha2:a<18446744073709551616:=by have:=ha.2;omega
 have hb2:b<18446744073709551616:=by have:=hb.2;omega
 simp only[l9,qD,List.range,List.range.loop,qJ,ju,List.cons.injEq,and_true]at h;obtain⟨h0,h1,h2,h3,h4,h5,h6,h7⟩:=h;simp only[Nat.pow_zero,Nat.div_one,Nat.reducePow]at h0 h1 h2 h3 h4 h5 h6 h7;omega
theorem q4A{x y:Nd}(hx:OkT x)(hy:OkT y){p q:List Nat}(h:pD x++p=pD y++q):x.kd=y.kd/\x.a=y.a/\x.b=y.b/\x.c=y.c/\x.d=y.d/\x.lo=y.lo/\x.hi=y.hi/\p=q:=by
 obtain⟨kx,sx,wx,lx,ix⟩:=hx;obtain⟨ky,sy,wy,ly,iy⟩:=hy;unfold pD at h;rw[jm,jm]at h;injection h with h1 h2;have hk:x.kd=y.kd:=by omega
 by_cases k1:x.kd=1
 ·rw[qw k1,qw (hk▸k1)]at h2
  simp only[qk]at h2;obtain⟨e1,h2⟩:=List.append_inj h2 (by simp[oD]);obtain⟨e2,h2⟩:=List.append_inj h2 (by simp[oD]);obtain⟨e3,h2⟩:=List.append_inj h2 (by simp[oD]);obtain⟨e4,h2⟩:=List.append_inj h2 (by simp[oD]);simp only[jm,List.nil_append,List.cons.injEq,true_and]at h2;exact⟨hk,uM wx.1 wy.1 e1,uM wx.2.1 wy.2.1 e2,uM wx.2.2.1 wy.2.2.1 e3,uM wx.2.2.2 wy.2.2.2 e4,q28 lx ly h2.1,q28 ix iy h2.2.1,h2.2.2⟩
 rw[qv k1,qv (hk▸k1)]at h2;simp only[List.nil_append,jm,List.cons.injEq,true_and]at h2;obtain⟨a1,a2,a3,a4⟩:=sx k1;obtain⟨c1,c2,c3,c4⟩:=sy (hk▸k1);exact⟨hk,by rw[a1,c1],by rw[a2,c2],by rw[a3,c3],by rw[a4,c4],q28 lx ly h2.1,q28 ix iy h2.2.1,h2.2.2⟩
theorem B1(x:Nd)(hx:OkT x)(p q:List Nat):pD x++p≠41::q:=by
 intro h;unfold pD at h;rw[jm]at h;injection h with h1 h2;have:=hx.1;omega
theorem T0:∀f g,mM OkT f->mM OkT g->wf f->wf g->∀p q,txF f++41::p=txF g++41::q->f=g/\p=q
 |.nil,.nil,_,_,_,_,p,q,h=>by
  injection h with _ h;exact⟨rfl,h⟩
 |.nil,.cons y j s,_,hg,_,_,p,q,h=>by
  rw[txF,txF,qk]at h;exact absurd h.symm (B1 y hg.1 _ _)
 |.cons x k r,.nil,hf,_,_,_,p,q,h=>by
  rw[txF,txF,qk]at h;exact absurd h (B1 x hf.1 _ _)
 |.cons x k r,.cons y j s,hf,hg,wf1,wg1,p,q,h=>by
  simp only[txF,qk,jm]at h;obtain⟨e1,e2,e3,e4,e5,e6,e7,h2⟩:=q4A hf.1 hg.1 h;obtain⟨rfl,h3⟩:=T0 k j hf.2.1 hg.2.1 wf1.2.1 wg1.2.1 _ _ h2;obtain⟨rfl,h4⟩:=T0 r s hf.2.2 hg.2.2 wf1.2.2 wg1.2.2 _ _ h3;refine⟨?_,h4⟩;have hn:x.n=y.n:=wf1.1.trans wg1.1.symm
  congr 1
  cases x;cases y;simp only at e1 e2 e3 e4 e5 e6 e7 hn;subst e1 e2 e3 e4 e5 e6 e7 hn
  rfl
def z3(met:List (List Nat)):Fo->Fo
 |.nil=>.nil
 |.cons x k r=>if kG x then z3 met r else if txF (.cons x k .nil)∈met then z3 met r else .cons x k (z3 (txF (.cons x k .nil)::met) r)
def q3j(l:Fo):Tm:=uL 4 iG (z3 [] (gU 4 l))
def q0W(Ls:List Lng):Lng:=fun w=>∃A∈Ls,A w
theorem q4B(Ls:List Lng)(w:List Nat):q70 Ls Ls.length w↔q0W Ls w:=by
 constructor
 ·rintro⟨j,hj,h⟩
  have e:Ls.getD j tF=Ls[j]:=by simp[List.getD,hj]
  rw[e]at h;exact⟨_,jl hj,h⟩
 rintro⟨A,hA,h⟩;obtain⟨j,hj,rfl⟩:=List.mem_iff_getElem.1 hA;exact⟨j,hj,by rw[show Ls.getD j tF=Ls[j] by simp[List.getD,hj]];exact h⟩
theorem z6(x:Nd)(Ls:List Lng)(h:x.kd=4)(w:List Nat):gT x Ls w↔q0W Ls w:=by
 unfold gT;rw[qv (by omega),qv (by omega),qv (by omega),qv (by omega),qv (by omega),qv (by omega),qv (by omega)];exact q4B Ls w
theorem q7h(A B:List Lng)(w:List Nat):q0W (A++B) w↔q0W A w\/q0W B w:=by
 constructor
 ·rintro⟨L,h,hw⟩
  exact(List.mem_append.1 h).imp (fun h=>⟨L,h,hw⟩) (fun h=>⟨L,h,hw⟩)
 rintro(⟨L,h,hw⟩|⟨L,h,hw⟩)
 ·exact⟨L,j5 _ h,hw⟩
 exact⟨L,List.mem_append_right _ h,hw⟩
theorem iL(A:Lng)(B:List Lng)(w:List Nat):q0W (A::B) w↔A w\/q0W B w:=by
 constructor
 ·rintro⟨L,h,hw⟩
  rcases List.mem_cons.1 h with rfl|h
  ·exact .inl hw
  exact .inr ⟨L,h,hw⟩
 rintro(h|⟨L,h,hw⟩)
 ·exact⟨A,jh,h⟩
 exact⟨L,qY _ h,hw⟩
theorem B2:∀f w,q0W (cG (gU 4 f)) w↔q0W (cG f) w
 |.nil,w=>Iff.rfl
 |.cons x k r,w=>by
  rw[gU];split
  ·rename_i h
   rw[A8,q7h,cG,iL,B2 r w,z6 x _ h]
  rw[cG,cG,iL,iL,B2 r w]
theorem qam{x y:Nd}{k j:Fo}(hx:OkT x)(hy:OkT y)(hk:mM OkT k)(hj:mM OkT j)(wx:x.n=cnt k)(wy:y.n=cnt j)(wk:wf k)(wj:wf j)(h:txF (.cons x k .nil)=txF (.cons y j .nil)):x=y/\k=j:=by
 have:=(T0 (.cons x k .nil) (.cons y j .nil) ⟨hx,hk,trivial⟩ ⟨hy,hj,trivial⟩ ⟨wx,wk,trivial⟩ ⟨wy,wj,trivial⟩ [] [] (by rw[h])).1;injection this with a b _;exact⟨a,b⟩
def qbi(met:List (List Nat))(A:Lng):Prop:=∀m∈met,∃(y:Nd) (j:Fo),m=txF (.cons y j .nil)/\OkT y/\mM OkT j/\y.n=cnt j/\wf j/\∀w,gT y (cG j) w->A w
theorem uN:∀f (met:List (List Nat)) (A:Lng),mM OkT f->wf f->qbi met A->∀w,A w\/q0W (cG (z3 met f)) w↔A w\/q0W (cG f) w
 |.nil,_,_,_,_,_,_=>Iff.rfl
 |.cons x k r,met,A,hf,hw,hm,w=>by
  rw[z3,cG,iL];by_cases hd:kG x=true
  ·rw[qw hd,uN r met A hf.2.2 hw.2.2 hm w]
   have:=iK x (cG k) hd w
   constructor
   ·rintro(h|h)
    ·exact .inl h
    exact .inr (.inr h)
   rintro(h|h|h)
   ·exact .inl h
   ·exact absurd h this
   exact .inr h
  rw[qv hd];by_cases hin:txF (.cons x k .nil)∈met
  ·rw[qw hin,uN r met A hf.2.2 hw.2.2 hm w]
   obtain⟨y,j,e,hy,hj,wy,wj,hl⟩:=hm _ hin;obtain⟨rfl,rfl⟩:=qam hf.1 hy hf.2.1 hj hw.1 wy hw.2.1 wj e
   constructor
   ·rintro(h|h)
    ·exact .inl h
    exact .inr (.inr h)
   rintro(h|h|h)
   ·exact .inl h
   ·exact .inl (hl w h)
   exact .inr h
  rw[qv hin,cG,iL]
  have ih:=uN r (txF (.cons x k .nil)::met) (fun w=>A w\/gT x (cG k) w) hf.2.2 hw.2.2 (fun m h=>by
   rcases List.mem_cons.1 h with rfl|h
   ·exact⟨x,k,rfl,hf.1,hf.2.1,hw.1,hw.2.1,fun w h=>.inr h⟩
   obtain⟨y,j,e,a,b,c,d,hl⟩:=hm m h;exact⟨y,j,e,a,b,c,d,fun w h=>.inl (hl w h)⟩) w
  rw[<-or_assoc,<-or_assoc];exact ih
theorem q4C(f:Fo)(w:List Nat):eV (uL 4 iG f) w↔q0W (cG f) w:=by
 match f with
 |.nil=>exact⟨fun h=>absurd h (iK noT _ rfl w),fun⟨_,h,_⟩=>by cases h⟩
 |.cons x k .nil=>
  rw[cG,iL];exact⟨.inl,fun h=>h.elim id (fun⟨_,h,_⟩=>by cases h)⟩
 |.cons x k (.cons y j r)=>exact z6 _ _ rfl w
theorem uO(p:Nd->Prop)(kd:Int):∀f,mM p f->mM p (gU kd f)
 |.nil,_=>trivial
 |.cons x k r,h=>by
  have app:∀f g,mM p f->mM p g->mM p (iE f g):=by
   intro f
   induction f with
   |nil=>exact fun g _ h=>h
   |cons x k r _ ih=>exact fun g h1 h2=>⟨h1.1,h1.2.1,ih g h1.2.2 h2⟩
  rw[gU];split
  ·exact app _ _ h.2.1 (uO p kd r h.2.2)
  exact⟨h.1,h.2.1,uO p kd r h.2.2⟩
theorem z7(kd:Int):∀f,wf f->wf (gU kd f)
 |.nil,_=>trivial
 |.cons x k r,h=>by
  have app:∀f g,wf f->wf g->wf (iE f g):=by
   intro f
   induction f with
   |nil=>exact fun g _ h=>h
   |cons x k r _ ih=>exact fun g h1 h2=>⟨h1.1,h1.2.1,ih g h1.2.2 h2⟩
  rw[gU];split
  ·exact app _ _ h.2.1 (z7 kd r h.2.2)
  exact⟨h.1,h.2.1,z7 kd r h.2.2⟩
theorem Z3(f:Fo)(h1:mM OkT f)(h2:wf f)(w:List Nat):eV (q3j f) w↔q0W (cG f) w:=by
 rw[<-B2 f w];unfold q3j;rw[q4C];have h:=uN (gU 4 f) [] (fun _=>False) (uO OkT 4 f h1) (z7 4 f h2) (fun m h=>by cases h) w;simpa using h
def rC(ll:List (List Nd)):Prop:=∀l∈ll,∀x∈l,NdQ x
noncomputable def D5(l:List Nd):Lng:=q4v (kD l)
theorem q9a{l:List Nd}(h:Chk l)(hq:∀x∈l,NdQ x):q4w (kD l):=by
 obtain⟨x,k,h1,h2,h3,h4,h5,-,-,-⟩:=r6 h;rw[j7]at h1;refine⟨x,k,by rw[h1];exact fN x k h2 h3,h4,hq x (by rw[h1];simp),h2,h3,h5,(iQ k).2 fun z hz=>hq z (by rw[h1];simp[hz])⟩
theorem q4R(n:Nat)(P:Nat->Prop):nD (n+1) P=nD n P++(if @decide (P n) (Classical.propDecidable _)then [n]else []):=by
 unfold nD;rw[jz,List.filter_append]
 congr 1
 rw[jU]
 rfl
theorem q7n (n i : Nat) (hi : i ≤ n) (P : Nat → Prop) : nD n (fun k => k < i ∧ P k) = nD i P := by
  induction n with
  | zero => obtain rfl : i = 0 := by omega
            rfl
  | succ n ih =>
    by_cases h : i ≤ n
    · rw [q4R, ih h, @qx _ (Classical.propDecidable _) (fun hh => by omega)]
      simp
    · obtain rfl : i = n + 1 := by omega
      exact wV fun k hk => ⟨fun h => h.2, fun h => ⟨hk, h⟩⟩
theorem q4S{ll:List (List Nd)}(h:uC ll=0):(∀l∈ll,Chk l)/\1+(ll.map kK).sum<=3000/\ll.length<=32/\0<ll.length:=by
 unfold uC at h;by_cases c1:ll.length=0
 ·rw[qw c1]at h;cases h
 rw[qv c1]at h;by_cases c2:32<ll.length
 ·rw[qw c2]at h;cases h
 rw[qv c2]at h;by_cases c3:∀l∈ll,Chk l
 ·rw[qv (fun h=>h c3)]at h
  by_cases c4:3000<1+(ll.map kK).sum
  ·rw[qw c4]at h;cases h
  exact⟨c3,by omega,by omega,by omega⟩
 rw[qw c3]at h;cases h
structure qc8(ll:List (List Nd)):Prop where
 len:((mkS ll ll.length).e.length:Int)=1+(ll.map kK).sum
 right:dK (mkS ll ll.length).e 0 (mkS ll ll.length).r=true
 run:∀t,q98 (mkS ll ll.length).e 0 (mkS ll ll.length).r t=nD ll.length (fun k=>D5 (ll.getD k []) t)
 edq:∀a x,x∈Row (mkS ll ll.length).e a->EdQ x
 few:tot (mkS ll ll.length).e<=10000
theorem q4T{ll:List (List Nd)}(h:uC ll=0)(hq:rC ll):qc8 ll:=by
 obtain⟨h1,h2,h3,h4⟩:=q4S h;have hmk:=q8Y ll h1 h2 ll.length (qb _);rw[q1W]at hmk;have hlen:=hmk.len;have hl:(ll.map kD).length=ll.length:=by simp
 obtain⟨en,hI⟩:=Y8 (ll.map kD) (fun j hj=>by
  rw[hl]at hj;rw[pA ll j hj];have hm:ll.getD j []∈ll:=by simp[List.getD,hj]
  exact q9a (h1 _ hm) (hq _ hm)) ll.length (by omega)
 change q7g (ll.map kD) ll.length (mkS ll ll.length) en at hI;have hr:=q3h hI h3 (by omega);refine⟨hlen,hr,fun t=>?_,hI.edq,by have:=hmk.tot;omega⟩
 have e1:q98 (mkS ll ll.length).e 0 (mkS ll ll.length).r t=nD 32 (q97 (mkS ll ll.length).e 0 (mkS ll ll.length).r t):=by
  unfold q98;rw[qw hr]
 rw[e1,<-q7n 32 ll.length h3];refine wV fun k _=>(q4y hI t k).trans (and_congr_right fun hk=>?_);rw[pA ll k hk];exact Iff.rfl
end Go.Cm
namespace Go.Cm
open Go.RowKit Go.Proofs
theorem qaE(w:World)(x:Nat)(X Z:Array Value)(hX:X=(wsV x).toArray)(hZ:Z=z4):
  lB ((w.alloc (.cells X 53)).alloc (.cells Z 53)) w.heap.size x/\lB ((w.alloc (.cells X 53)).alloc (.cells Z 53)) (w.heap.size+1) 0:=by
 refine⟨(show lB (w.alloc (.cells X 53)) w.heap.size x by rw[hX];exact sI w x).up (aD _ _),?_⟩;have:=kP (w.alloc (.cells X 53)) Z hZ;rwa [show(w.alloc (.cells X 53)).heap.size=w.heap.size+1 by simp]at this
theorem q9o(x:Nat)(c:UInt8)(w:World):Calls prog 103 #[fR x,.int .u8 (c.toNat:Nat)] w (gN (x|||2^c.toNat) w):=by
 have hz:=vG;obtain⟨Z,hZ⟩:∃Z,Z=z4:=⟨_,rfl⟩;rw[<-hZ]at hz;obtain⟨X,hX⟩:∃X,X=(wsV x).toArray:=⟨_,rfl⟩;obtain⟨hb0,hb2⟩:=qaE w x X Z hX hZ;have hlt:=c.toNat_lt;obtain⟨k,hk⟩:∃k,k=c.toNat:=⟨_,rfl⟩;rw[<-hk]at hlt⊢;have hk4:k/64<4:=by omega
 have hcell:=hb0.cell hk4;have hfr:=hb0.free (k/64)
 have hX2:X.setIfInBounds (k/64) (.int .u64 (bits .or .u64 ((wdR x (k/64):Nat):Int) (IntKind.u64.wrap ((2:Int)^(k%64)))))=(wsV (x|||2^k)).toArray:=by
  rw[qaB,hX,<-q5m (x:=x) (y:=x|||2^k) hk4 (fun j _=>q3v j)];simp
 obtain⟨hc0,hc2⟩:=qaE w _ _ Z hX2 hZ;have HS:=qa hc0;have H2:=qa hc2;have HBL:Hid (Below w.heap.size w ((w.alloc (.cells (X.setIfInBounds (k/64) (.int .u64 (bits .or .u64 ((wdR x (k/64):Nat):Int) (IntKind.u64.wrap ((2:Int)^(k%64)))))) 53)).alloc (.cells Z 53))):=qa aO;rw[show fR x=.agg X by rw[hX];rfl];clear hb0 hb2 hX hX2 hZ hk hc0 hc2;go_enter func103,ntmps103
 go_wp2_with(first
  |(refine bJ rfl _ rfl w.heap.size rfl (x|||2^k) HS.o ?_)
  |(refine b7 rfl _ _ rfl (w.heap.size+1) rfl 0 _ rfl H2.o ?_;intro w2 hB2 hg2;have HB2:=qa hB2;have HG2:=qa (HBL.o.grown hg2 HBL.o.size (fun q e=>by cases e;exact jd _));clear hB2 hg2))
 refine dV (s:=4) (ad:=⟨w.heap.size+1,0,none⟩) (x:=fR (x|||2^k)) rfl rfl rfl HB2.o.load ?_;exact⟨rfl,aJ HG2.o⟩
theorem ofQ(s:ByteArray)(hs:s.size<=1000000)(w:World):Calls prog 94 #[.string s] w (gN (ofS (bys s)) w):=by
 have hix:=fun(i:Nat) (h:i<s.size) (W:World)=>iU (P:=prog) 9 underlying9 h W;have HIX:=qa hix;have HT0:Hid (∀k,k<s.size->ofS ((bys s).take (k+1))=ofS ((bys s).take k)|||2^((bys s).getD k 0).toNat):=qa (fun k h=>by rw[aV (bys s) k 0 (by rw[cH];exact h),q7y]);have HTE:Hid ((bys s).take s.size=bys s):=qa (by rw[<-cH,j3]);have hz:=vG;obtain⟨Z,hZ⟩:∃Z,Z=z4:=⟨_,rfl⟩;rw[<-hZ]at hz;have h00:=qaE w 0 Z Z hZ hZ;have HA0:=qa h00.1;have HB0:=qa h00.2;have HBL:Hid (Below w.heap.size w ((w.alloc (.cells Z 53)).alloc (.cells Z 53))):=qa aO;have HWQ:Hid (∀(x:Nat) (c:UInt8) W,Calls prog 103 #[fR x,.int .u8 (c.toNat:Nat)] W (gN (x|||2^c.toNat) W)):=qa (fun x c W=>q9o x c W);clear hix hZ h00;generalize bys s=l at*;go_enter func94,ntmps94;go_wp2
 go_loopg [4] (s.size+1) (fun gk i wr=>∃k:Nat,k<=s.size/\i=.int .i64 k/\lB wr (w.heap.size+1) (ofS (l.take k))/\lB wr w.heap.size 0/\Below w.heap.size w wr/\gk=s.size+1-k)
 case atStart=>exact⟨0,by omega,rfl,HB0.o,HA0.o,HBL.o,rfl⟩
 case round=>
  clear HA0 HB0 HBL;obtain⟨k,hk,rfl,hB,hA,qcw,rfl⟩:=hrel;have HB:=qa hB;have HA:=qa hA;have HBL:=qa qcw;have hsz:=qcw.size;clear hA qcw hB;by_cases hlt:k<s.size
  ·have qd5:=HIX.o k hlt
   have HT:=qa (HT0.o k hlt);generalize l.getD k 0=d at*;generalize ofS (l.take k)=x at*;have HG0:Hid (wr.grownBy wr (some (w.heap.size+1))):=qa (dL _ _);go_wp2;refine aR [0,1,2,3] [4] [5] (by kernel_rfl) (by kernel_rfl) ?_;simp only[pk];go_simp
   repeat(first
    |(go_big_quiet_want;refine cW _ rfl (w.heap.size+1) rfl x (fun w' hw=>by obtain⟨y,rfl⟩:=hw;exact HB.o.up (aI ⟨_,rfl⟩)) ?_;go_simp;go_big_quiet_on)
    |(go_big_quiet_step (fail)))
   refine wpQuiet_nil ?_;unfold aF
   go_wp2_with((with_reducible refine(HWQ.o _ _ _).mono ?_);rintro e w3 ⟨rfl,hx⟩;have hb3:=fD (aX wr 1) (aI hx);have HB3:=qa (HB.o.up hb3);have HA3:=qa (HA.o.up hb3);have qfT:=qa (HBL.o.trans (hb3.mono hsz));have HX3:=qa hb3;clear hx hb3)
   refine⟨aJ HX3.o,?_⟩;unfold aF;unfold aF
   go_wp2_with(refine b7 rfl _ _ rfl (w.heap.size+1) rfl x _ rfl HB3.o ?_;intro w4 hB2 hg2;have HB4:=qa hB2;have HA4:=qa (HA3.o.keep hg2 (by simp));have qhA:=qa (qfT.o.grown hg2 qfT.o.size (fun q e=>by cases e;exact jd _));clear hB2 hg2)
   refine⟨trivial,?_⟩;unfold aF;go_wp2
   go_roundg (s.size-k)
   case rel=>exact⟨k+1,by omega,by go_num,by rw[HT.o];exact HB4.o,HA4.o,qhA.o,by omega⟩
   case measure=>omega
  obtain rfl:k=s.size:=by omega
  rw[HTE.o]at HB
  go_wp2_with(first|(refine bJ rfl _ rfl (w.heap.size+1) rfl _ HB.o ?_)|(refine b7 rfl _ _ rfl w.heap.size rfl _ _ rfl HA.o ?_;intro w2 hB2 hg2;have HB2:=qa hB2;have HG2:=qa hg2;clear hB2 hg2))
  refine dV (s:=2) (ad:=⟨w.heap.size,0,none⟩) (x:=fR (ofS l)) rfl rfl rfl HB2.o.load ?_;exact⟨rfl,aJ (HBL.o.grown HG2.o HBL.o.size (fun k hk=>by cases hk;exact qb _))⟩
theorem q9p{a b k:Nat}(hk:k<=256)(h:b<k\/k=256):q6N a b k=nS a b:=by
 refine jo fun i=>?_;rw[V1,q5k];by_cases h1:a<=i/\i<=b
 ·by_cases h2:i<256
  ·rw[qz h2,qz (show i<k by omega)]
  rw[qx h2,qx (show¬i<k by omega)]
 rw[qx h1];simp
theorem q5A(a b:Nat):q6N a b a=0:=by
 refine jo fun i=>?_;rw[V1,Nat.zero_testBit];by_cases h1:a<=i/\i<=b
 ·rw[qx (show¬i<a by omega)];simp
 rw[qx h1];simp
theorem q0m(a b:UInt8)(w:World):Calls prog 100 #[.int .u8 (a.toNat:Nat),.int .u8 (b.toNat:Nat)] w (gN (nS a.toNat b.toNat) w):=by
 have hz:=vG;obtain⟨Z,hZ⟩:∃Z,Z=z4:=⟨_,rfl⟩;rw[<-hZ]at hz;have h00:=qaE w 0 Z Z hZ hZ;have HA0:=qa h00.1;have HB0:=qa h00.2;have HBL:Hid (Below w.heap.size w ((w.alloc (.cells Z 53)).alloc (.cells Z 53))):=qa aO
 have HWQ:Hid (∀(x k:Nat) W,k<256->Calls prog 103 #[fR x,.int .u8 (k:Nat)] W (gN (x|||2^k) W)):=qa (fun x k W hk=>by
  have:=q9o x (UInt8.ofNat k) W;rwa [show(UInt8.ofNat k).toNat=k by simp;omega]at this)
 have ha:=a.toNat_lt;have hb:=b.toNat_lt;generalize a.toNat=a at*;generalize b.toNat=b at*;have HZ:=qa (q5A a b);have HE:=qa (fun k h1 h2=>@q9p a b k h1 h2);clear hZ h00;go_enter func100,ntmps100;go_wp2
 go_loopg [6] (257-a) (fun gk i wr=>∃k:Nat,k<=256/\a<=k/\i=.int .i64 k/\lB wr (w.heap.size+1) (q6N a b k)/\lB wr w.heap.size 0/\Below w.heap.size w wr/\gk=257-k)
 case atStart=>exact⟨a,by omega,qb _,rfl,by rw[HZ.o];exact HB0.o,HA0.o,HBL.o,rfl⟩
 case round=>
  clear HA0 HB0 HBL;obtain⟨k,hk,hak,rfl,hB,hA,qcw,rfl⟩:=hrel;have HB:=qa hB;have HA:=qa hA;have HBL:=qa qcw;have hsz:=qcw.size;clear hA qcw hB;by_cases hlt:k<=b
  ·have HK:=qa (q0j a b k)
   rw[qw ⟨hak,hlt⟩]at HK;generalize q6N a b k=x at*;have HWK:=qa (fun W=>HWQ.o x k W (by omega))
   go_wp2_with(first
    |(refine bJ rfl _ rfl (w.heap.size+1) rfl _ HB.o ?_)
    |((with_reducible refine(HWK.o _).mono ?_);rintro e w3 ⟨rfl,hx⟩;have hb3:=aI hx;have HB3:=qa (HB.o.up hb3);have HA3:=qa (HA.o.up hb3);have qfT:=qa (HBL.o.trans (hb3.mono hsz));clear hx hb3)
    |(refine b7 rfl _ _ rfl (w.heap.size+1) rfl x _ rfl HB3.o ?_;intro w4 hB2 hg2;have HB4:=qa hB2;have HA4:=qa (HA3.o.keep hg2 (by simp));have qhA:=qa (qfT.o.grown hg2 qfT.o.size (fun q e=>by cases e;exact jd _));clear hB2 hg2))
   go_roundg (256-k)
   case rel=>exact⟨k+1,by omega,by omega,by go_num,by rw[HK.o];exact HB4.o,HA4.o,qhA.o,by omega⟩
   case measure=>omega
  rw[HE.o k hk (.inl (by omega))]at HB
  go_wp2_with(first|(refine bJ rfl _ rfl (w.heap.size+1) rfl _ HB.o ?_)|(refine b7 rfl _ _ rfl w.heap.size rfl _ _ rfl HA.o ?_;intro w2 hB2 hg2;have HB2:=qa hB2;have HG2:=qa hg2;clear hB2 hg2))
  refine dV (s:=4) (ad:=⟨w.heap.size,0,none⟩) (x:=fR (nS a b)) rfl rfl rfl HB2.o.load ?_;exact⟨rfl,aJ (HBL.o.grown HG2.o HBL.o.size (fun k hk=>by cases hk;exact qb _))⟩
def edX(x:Nat):Ed:=⟨0,false,(wdR x 0:Nat),(wdR x 1:Nat),(wdR x 2:Nat),(wdR x 3:Nat)⟩
theorem qcd(x k:Nat)(hk:k<256):pB (edX x) k=x.testBit k:=by
 have e:pB (edX x) k=(((wdR x (k/64):Nat):Int)/2^(k%64)%2==1):=by
  unfold pB edX
  have h2:(if k<64 then((wdR x 0:Nat):Int)else if k<128 then((wdR x 1:Nat):Int)else if k<192 then((wdR x 2:Nat):Int)else((wdR x 3:Nat):Int))=((wdR x (k/64):Nat):Int):=by
   (repeat' split)<;>first|(rw[show k/64=0 by omega])|(rw[show k/64=1 by omega])|(rw[show k/64=2 by omega])|(rw[show k/64=3 by omega])
  rw[<-h2]
 have h3:=q3u x (k/64) (k%64);rw[qz (jW k (by decide)),j6,show 64*(k/64)+k%64=k by omega]at h3;rw[e,<-h3,Nat.testBit_eq_decide_div_mod_eq];have h4:((wdR x (k/64):Nat):Int)/2^(k%64)%2=((wdR x (k/64)/2^(k%64)%2:Nat):Int):=by norm_cast
 rw[h4,jk];simp;omega
theorem qbU(x k:Nat)(hk:k<256)(w:World):Calls prog 102 #[fR x,.int .u8 (k:Nat)] w fun e w'=>e=.returned (.bool (x.testBit k))/\∃y,w'=ext w y:=by
 have:=qc7 (w:=w) (edX x) (fun q=>by unfold mG edX;simp only;(repeat' split)<;>omega) k hk;rw[qcd x k hk]at this;exact this
theorem q5B (x : Nat) (w : World) : Calls prog 99 #[fR x] w fun e w' => e = .returned (.string ⟨(sY x 256).toArray⟩) ∧ ∃ y, w' = ext w y := by
  obtain ⟨X, hX⟩ : ∃ X, X = (wsV x).toArray := ⟨_, rfl⟩
  have HB0 : Hid (lB (w.alloc (.cells X 53)) w.heap.size x) := qa (by rw [hX]; exact sI w x)
  have HB1 : Hid (Below w.heap.size w (w.alloc (.cells X 53))) := qa (aD _ _)
  have HHQ : Hid (∀ k W, k < 256 → Calls prog 102 #[fR x, .int .u8 (k : Nat)] W fun e w' => e = .returned (.bool (x.testBit k)) ∧ ∃ y, w' = ext W y) := qa (fun k W hk => qbU x k hk W)
  rw [show fR x = .agg X by rw [hX]; rfl]
  clear hX
  go_enter func99, ntmps99
  go_wp2
  go_loopg [3, 4] 257 (fun gk vb iv wr => ∃ k : Nat, k ≤ 256 ∧ iv = .int .i64 k ∧ Own wr w.heap.size 5 vb (dG (sY x k)) ∧ lB wr w.heap.size x ∧ (∀ q, vb.ownBlock = some q → w.heap.size < q) ∧ Below w.heap.size w wr ∧ gk = 257 - k)
  case atStart => exact ⟨0, by omega, rfl, Own.nil _ _ _, HB0.o, (by intro q h; cases h), HB1.o, rfl⟩
  case round =>
    clear HB0 HB1
    obtain ⟨k, hk, rfl, hO, hS, hq, hB, rfl⟩ := hrel
    have HO := qa hO
    have HS := qa hS
    have HB := qa hB
    have HQ := qa hq
    clear hO hS hB hq
    by_cases hlt : k < 256
    · have HHK := qa (fun W => HHQ.o k W hlt)
      have HK := qa (q0k x k)
      have HL := qa (vH x k)
      cases hb : x.testBit k with
      | true =>
        rw [hb] at HHK HK
        have HBV : Hid (dG (sY x (k + 1)) = dG (sY x k) ++ [Value.int .u8 (k : Int)]) := qa (by
          rw [HK.o, qw rfl, vD, q7x k hlt])
        have HBL : Hid ((dG (sY x k)).length ≤ 256) := qa (by have := HL.o; rw [i9]; omega)
        clear HK HL hb
        generalize dG (sY x k) = bs at *
        go_wp2_with (first
          | (refine bJ rfl _ rfl w.heap.size rfl _ HS.o ?_)
          | ((with_reducible refine (HHK.o _).mono ?_); rintro e w3 ⟨rfl, hx3⟩; have hb3 := aI hx3; have HO3 := qa (HO.o.up hb3); have HS3 := qa (HS.o.up hb3); have HB3 := qa (HB.o.trans (hb3.mono HB.o.size)); clear hx3 hb3
             have hlW := qa (aD w3 (.cells #[.int .u8 (k : Int)] 5))
             have HX : Hid (Sl (w3.alloc (.cells #[.int .u8 (k : Int)] 5)) (.slice (some ⟨w3.heap.size, 0, none⟩) 1 1) [.int .u8 (k : Int)]) := qa (by simpa using eK w3 #[.int .u8 (k : Int)] 5 (by simp))
             have HO4 := qa (HO3.o.up hlW.out); have HS4 := qa (HS3.o.up hlW.out); have HB4 := qa (HB3.o.trans (hlW.out.mono HB3.o.size))
             have HLE : Hid (bs.length + [Value.int .u8 (k : Int)].length ≤ 4294967296) := qa (by have := HBL.o; simp; omega))
          | (at_builtin; refine bF rfl (.tmp 13) (.tmp 16) 58 rfl w.heap.size 5 (.int .u8 0) 1 underlying58 (by kernel_rfl) rfl (by decide) _ bs rfl HO4.o (.slice (some ⟨w3.heap.size, 0, none⟩) 1 1) [.int .u8 (k : Int)] rfl HX.o (by intro u hu; simp only [jg] at hu; subst hu; rfl) HLE.o HB4.o.size ?_; intro v' w5 hown1 hg1 hk1; have HO5 := qa hown1; have HQ5 : Hid (∀ q, v'.ownBlock = some q → w.heap.size < q) := qa (fun q e => (hk1 q e).elim (fun h => HQ.o q h) (fun h => by have := HS4.o.lt; omega)); have HS5 := qa (HS4.o.keep hg1 (fun e => by have := HQ.o _ e; omega)); have HB5 := qa (HB4.o.grown hg1 HB4.o.size (fun q e => jq (HQ.o q e))); clear hown1 hg1 hk1))
        go_roundg (256 - k)
        case measure => omega
        case rel => exact ⟨k + 1, by omega, by go_num, by rw [HBV.o]; exact HO5.o, HS5.o, HQ5.o, HB5.o, by omega⟩
      | false =>
        rw [hb] at HHK HK
        have HBV : Hid (sY x (k + 1) = sY x k) := qa (by rw [HK.o]; simp)
        clear HK HL hb
        go_wp2_with (first
          | (refine bJ rfl _ rfl w.heap.size rfl _ HS.o ?_)
          | ((with_reducible refine (HHK.o _).mono ?_); rintro e w3 ⟨rfl, hx3⟩; have hb3 := aI hx3; have HO3 := qa (HO.o.up hb3); have HS3 := qa (HS.o.up hb3); have HB3 := qa (HB.o.trans (hb3.mono HB.o.size)); clear hx3 hb3))
        go_roundg (256 - k)
        case measure => omega
        case rel => exact ⟨k + 1, by omega, by go_num, by rw [HBV.o]; exact HO3.o, HS3.o, HQ.o, HB3.o, by omega⟩
    · obtain rfl : k = 256 := by omega
      have hcv := fW (P := prog) wr 58 9 5 underlying58 underlying5 underlying9 _ _ HO.o.sl
      go_wp2
      go_ret
      exact ⟨rfl, aJ HB.o⟩
theorem qbV{x:Nat}(hx:x<2^256)(w:World):Calls prog 93 #[fR x] w (gN (X5 x) w):=by
 have hz:=vG;obtain⟨Z,hZ⟩:∃Z,Z=z4:=⟨_,rfl⟩;rw[<-hZ]at hz;obtain⟨X,hX⟩:∃X,X=(wsV x).toArray:=⟨_,rfl⟩;have h1:=qaE w x X Z hX hZ;have H0:Hid (lB (((w.alloc (.cells X 53)).alloc (.cells Z 53)).alloc (.cells Z 53)) w.heap.size x):=qa (h1.1.up (aD _ _));have H1:Hid (lB (((w.alloc (.cells X 53)).alloc (.cells Z 53)).alloc (.cells Z 53)) (w.heap.size+1) 0):=qa (h1.2.up (aD _ _))
 have H2:Hid (lB (((w.alloc (.cells X 53)).alloc (.cells Z 53)).alloc (.cells Z 53)) (w.heap.size+2) 0):=qa (by
  have:=kP ((w.alloc (.cells X 53)).alloc (.cells Z 53)) Z hZ;rwa [show((w.alloc (.cells X 53)).alloc (.cells Z 53)).heap.size=w.heap.size+2 by simp]at this)
 have HBL:Hid (Below w.heap.size w (((w.alloc (.cells X 53)).alloc (.cells Z 53)).alloc (.cells Z 53))):=qa aO;have HHQ:Hid (∀k W,k<256->Calls prog 102 #[fR x,.int .u8 (k:Nat)] W fun e w'=>e=.returned (.bool (x.testBit k))/\∃y,w'=ext W y):=qa (fun k W hk=>qbU x k hk W)
 have HWQ:Hid (∀(y k:Nat) W,k<256->Calls prog 103 #[fR y,.int .u8 (k:Nat)] W (gN (y|||2^k) W)):=qa (fun y k W hk=>by
  have:=q9o y (UInt8.ofNat k) W;rwa [show(UInt8.ofNat k).toNat=k by simp;omega]at this)
 have HE:=qa (q7C hx);rw[<-HE.o,show fR x=.agg X by rw[hX];rfl];clear hX hZ h1;go_enter func93,ntmps93;go_wp2
 go_loopg [4] 257 (fun gk iv wr=>∃k:Nat,k<=256/\iv=.int .i64 k/\lB wr w.heap.size x/\lB wr (w.heap.size+1) 0/\lB wr (w.heap.size+2) (q7B x k)/\Below w.heap.size w wr/\gk=257-k)
 case atStart=>exact⟨0,by omega,rfl,H0.o,H1.o,H2.o,HBL.o,rfl⟩
 case round=>
  clear H0 H1 H2 HBL;obtain⟨k,hk,rfl,h0,h1,h2,hB,rfl⟩:=hrel;have H0:=qa h0;have H1:=qa h1;have H2:=qa h2;have HB:=qa hB;clear h0 h1 h2 hB;by_cases hlt:k<256
  ·have HHK:=qa (fun W=>HHQ.o k W hlt)
   have HK:=qa (q5q x k);cases hb:x.testBit k with
   |true=>
    rw[hb]at HHK HK;rw[qw rfl]at HK;clear hb
    go_wp2_with(first
     |(refine bJ rfl _ rfl w.heap.size rfl _ H0.o ?_)
     |((with_reducible refine(HHK.o _).mono ?_);rintro e w3 ⟨rfl,hx3⟩;have hb3:=aI hx3;have H03:=qa (H0.o.up hb3);have H13:=qa (H1.o.up hb3);have H23:=qa (H2.o.up hb3);have HB3:=qa (HB.o.trans (hb3.mono HB.o.size));clear hx3 hb3))
    go_roundg (256-k)
    case measure=>omega
    case rel=>exact⟨k+1,by omega,by go_num,H03.o,H13.o,by rw[HK.o];exact H23.o,HB3.o,by omega⟩
   |false=>
    rw[hb]at HHK HK;rw[qv (by simp)]at HK;clear hb;generalize q7B x k=y at*;have HWK:=qa (fun W=>HWQ.o y k W hlt)
    go_wp2_with(first
     |(refine bJ rfl _ rfl w.heap.size rfl _ H0.o ?_)
     |((with_reducible refine(HHK.o _).mono ?_);rintro e w3 ⟨rfl,hx3⟩;have hb3:=aI hx3;have H03:=qa (H0.o.up hb3);have H13:=qa (H1.o.up hb3);have H23:=qa (H2.o.up hb3);have HB3:=qa (HB.o.trans (hb3.mono HB.o.size));clear hx3 hb3)
     |(refine bJ rfl _ rfl (w.heap.size+2) rfl _ H23.o ?_)
     |((with_reducible refine(HWK.o _).mono ?_);rintro e w4 ⟨rfl,hx3⟩;have hb3:=aI hx3;have H04:=qa (H03.o.up hb3);have H14:=qa (H13.o.up hb3);have H24:=qa (H23.o.up hb3);have HB4:=qa (HB3.o.trans (hb3.mono HB3.o.size));clear hx3 hb3)
     |(refine b7 rfl _ _ rfl (w.heap.size+2) rfl y _ rfl H24.o ?_;intro w5 hB2 hg2;have H25:=qa hB2;have H05:=qa (H04.o.keep hg2 (by simp));have H15:=qa (H14.o.keep hg2 (by simp));have HB5:=qa (HB4.o.grown hg2 HB4.o.size (fun q e=>by cases e;omega));clear hB2 hg2))
    go_roundg (256-k)
    case measure=>omega
    case rel=>exact⟨k+1,by omega,by go_num,H05.o,H15.o,by rw[HK.o];exact H25.o,HB5.o,by omega⟩
  obtain rfl:k=256:=by omega
  go_wp2_with(first|(refine bJ rfl _ rfl (w.heap.size+2) rfl _ H2.o ?_)|(refine b7 rfl _ _ rfl (w.heap.size+1) rfl _ _ rfl H1.o ?_;intro w2 hB2 hg2;have HB2:=qa hB2;have HG2:=qa hg2;clear hB2 hg2))
  refine dV (s:=2) (ad:=⟨w.heap.size+1,0,none⟩) (x:=fR (q7B x 256)) rfl rfl rfl HB2.o.load ?_;exact⟨rfl,aJ (HB.o.grown HG2.o HB.o.size (fun k hk=>by cases hk;exact jd _))⟩
end Go.Cm
namespace Go.Cm
open Go.RowKit Go.Proofs Go.WideShapes Go.ChangeShapes Go.Deep
instance :Inhabited Nd:=⟨⟨0,0,0,0,0,0,0,0⟩⟩
section
variable {H : Type} {enc : TypeId × Value → H} {w : World} {base : Nat} {held : Bool}
theorem q7K{fuel:Nat}{cs:List Value}{y:DataW H×List MemPlace}(h:DataW.trod enc prog w base (fun _=>true) held fuel 53 cs=some y)(hl:cs.length=4):
  ∃a b c d:Int,cs=[.int .u64 a,.int .u64 b,.int .u64 c,.int .u64 d]/\WQ a/\WQ b/\WQ c/\WQ d:=by
 obtain⟨ys,m,-,-,-,hyl,hyy⟩:=DataW.trod_array underlying53 h;have cu:prog.cellsOf 51=1:=by kernel_rfl
 have hcell:∀i,i<4->∃z:Int,cs[i]? =some (.int .u64 z)/\WQ z:=fun i hi=>by
  have h3:=hyy i hi;rw[cu,Nat.mul_one]at h3;have hy:ys[i]? =some (ys[i]'(by omega)):=qy (by omega);rw[hy]at h3;obtain⟨k,e1,-,hwf⟩:=DataW.trod_int underlying51 h3;refine⟨k,?_,?_⟩
  ·have e2:((cs.drop i).take 1)[0]? =some (.int .u64 k):=j0 (fun l=>l[0]?) e1
   simpa using e2
  simp[Lit.wf,IntKind.min,IntKind.max,IntKind.signed,IntKind.bits]at hwf;unfold WQ;omega
 obtain⟨a,ha,ha0⟩:=hcell 0 (by omega);obtain⟨b,hb,hb0⟩:=hcell 1 (by omega);obtain⟨c,hc,hc0⟩:=hcell 2 (by omega);obtain⟨d,hd,hd0⟩:=hcell 3 (by omega);refine⟨a,b,c,d,?_,ha0,hb0,hc0,hd0⟩;obtain⟨q0,q1,q2,q3,rfl⟩:=qbr hl;simp at ha hb hc hd;rw[ha,hb,hc,hd]
theorem q5O{fuel:Nat}{cs:List Value}{y:DataW H×List MemPlace}(h:DataW.trod enc prog w base (fun _=>true) held fuel 98 cs=some y)(hl:cs.length=8):
  ∃x:Nd,cs=ndC x/\NdQ x:=by
 obtain⟨xs,n,-,-,-,hxl,hg⟩:=DataW.trod_struct underlying98 h
 match xs,hxl with
 |[x0,x1,x2,x3,x4],_=>
  have h0:=hg 0 _ rfl;have h1:=hg 1 _ rfl;have h2:=hg 2 _ rfl;have h3:=hg 3 _ rfl;have h4:=hg 4 _ rfl;have cs4:prog.cellsOf 53=4:=by kernel_rfl
  have c3:prog.cellsOf 3=1:=by kernel_rfl
  simp only[List.getElem?_cons_zero,List.getElem?_cons_succ]at h0 h1 h2 h3 h4;change DataW.trod enc prog w base (fun _=>true) held n 3 ((cs.drop 0).take (prog.cellsOf 3))=some x0 at h0;change DataW.trod enc prog w base (fun _=>true) held n 3 ((cs.drop 1).take (prog.cellsOf 3))=some x1 at h1;change DataW.trod enc prog w base (fun _=>true) held n 53 ((cs.drop 2).take (prog.cellsOf 53))=some x2 at h2;change DataW.trod enc prog w base (fun _=>true) held n 3 ((cs.drop 6).take (prog.cellsOf 3))=some x3 at h3;change DataW.trod enc prog w base (fun _=>true) held n 3 ((cs.drop 7).take (prog.cellsOf 3))=some x4 at h4;obtain⟨k0,e0,-,-⟩:=DataW.trod_int underlying3 h0;obtain⟨k1,e1,-,-⟩:=DataW.trod_int underlying3 h1;obtain⟨k3,e3,-,-⟩:=DataW.trod_int underlying3 h3;obtain⟨k4,e4,-,-⟩:=DataW.trod_int underlying3 h4;obtain⟨a,b,c,d,e2,ha,hb,hc,hd⟩:=q7K h2 (by rw[cs4];simp;omega);rw[c3]at e0 e1 e3 e4;rw[cs4]at e2;obtain⟨q0,q1,q2,q3,q4,q5,q6,q7,rfl⟩:=qbs hl;simp at e0 e1 e2 e3 e4;obtain⟨rfl,rfl,rfl,rfl⟩:=e2;subst e0 e1 e3 e4;exact⟨⟨k0,k1,a,b,c,d,k3,k4⟩,rfl,ha,hb,hc,hd⟩
theorem q3x{fuel:Nat}{cs:List Value}{x:DataW H×List MemPlace}(h:DataW.trod enc prog w base (fun _=>true) held fuel 42 cs=some x)(hw:∀n∈x.1.weights prog 42,n<=reachBytes):∃v l,cs=[v]/\bE w v l/\∀z∈l,NdQ z:=by
 have c8:prog.cellsOf 98=8:=by kernel_rfl
 have b8:prog.bytesOf 98=64:=by kernel_rfl
 obtain⟨oa,len,cap,b,off,C,D,rfl,hd,hx⟩:=q7J 8 (by decide) underlying42 c8 (by rw[b8];decide) h hw
 have hN:∀i,i<len->∃z:Nd,C i=ndC z/\NdQ z:=fun i hi=>by
  obtain⟨hl,-,⟨n,p,h2⟩,-⟩:=hx i hi;exact q5O h2 hl
 obtain⟨Z,hZ⟩:=choose_lt hN;refine⟨_,(List.range len).map Z,rfl,⟨oa,cap,b,off,by simp,by simpa using hd,fun i hi c hcl=>?_⟩,fun z hz=>?_⟩
 ·have hi':i<len:=by simpa using hi
  rw[(hx i hi').2.1 c hcl,(hZ i hi').1];simp[List.getD,hi']
 obtain⟨i,hi,rfl⟩:=List.mem_map.1 hz;exact(hZ i (List.mem_range.1 hi)).2
theorem q1x{fuel:Nat}{cs:List Value}{x:DataW H×List MemPlace}(h:DataW.trod enc prog w base (fun _=>true) held fuel 22 cs=some x)(hw:∀n∈x.1.weights prog 22,n<=reachBytes):∃v ll,cs=[v]/\gC w v ll/\rC ll:=by
 have c1:prog.cellsOf 42=1:=by kernel_rfl
 have b1:prog.bytesOf 42=24:=by kernel_rfl
 obtain⟨oa,len,cap,b,off,V,D,rfl,hd,hx⟩:=q9v underlying22 c1 (by rw[b1];decide) h hw
 have hV:∀i,i<len->∃l:List Nd,bE w (V i) l/\∀z∈l,NdQ z:=fun i hi=>by
  obtain⟨-,⟨n,p,h2⟩,h3⟩:=hx i hi;obtain⟨v,l,e1,h4,h5⟩:=q3x h2 h3;simp only[List.cons.injEq,and_true]at e1;exact⟨l,e1▸h4,h5⟩
 obtain⟨Z,hZ⟩:=choose_lt hV;refine⟨_,(List.range len).map Z,rfl,⟨(List.range len).map V,⟨oa,cap,b,off,by simp,by simpa using hd,fun i hi=>?_⟩,by simp,fun i hi=>?_⟩,fun l hl z hz=>?_⟩
 ·have hi':i<len:=by simpa using hi
  rw[(hx i hi').1];simp[List.getD,hi']
 ·have hi':i<len:=by simpa using hi
  have:=(hZ i hi').1;simpa[List.getD,hi']using this
 obtain⟨i,hi,rfl⟩:=List.mem_map.1 hl;exact(hZ i (List.mem_range.1 hi)).2 z hz
theorem q3y{v:Value}{x:DataW H}{p:List MemPlace}{r:Reach}{b0:Nat}(hv:Value.okWide prog w r b0 22 v)(h:DataW.Trod enc prog w base (fun _=>true) held 22 v x p)(hw:∀n∈x.weights prog 22,n<=reachBytes):∃ll,gC w v ll/\rC ll:=by
 obtain⟨a0,len0,cap0,rfl⟩:=okWide_slice underlying22 hv;obtain⟨fuel,hf⟩:=h;obtain⟨v',ll,hcs,h1,h2⟩:=q1x hf hw
 have qfi:Value.slice a0 len0 cap0=v':=by
  have:[Value.slice a0 len0 cap0]=[v']:=hcs;injection this
 rw[qfi];exact⟨ll,h1,h2⟩
end
end Go.Cm
namespace Go.Cm
open Go.RowKit Go.Proofs
structure mY(w:World)(g:Nat)(nv rv:Value)(cl:List Int):Prop where
 own:Own w g 29 (.slice (some ⟨g,0,none⟩) 258 258) (ints cl++[nv,rv])
 len:cl.length=256
theorem mY.keep{w w':World}{g:Nat}{nv rv:Value}{cl:List Int}{row:Option Nat}(h:mY w g nv rv cl)(hg:w.grownBy w' row)(hne:row≠some g):mY w' g nv rv cl:=⟨h.own.keep hg (.inr (fun e=>hne e.symm)),h.len⟩
theorem mY.up{w w':World}{g:Nat}{nv rv:Value}{cl:List Int}(h:mY w g nv rv cl)(hb:Below w.heap.size w w'):mY w' g nv rv cl:=⟨h.own.up hb,h.len⟩
theorem mY.lt{w:World}{g:Nat}{nv rv:Value}{cl:List Int}(h:mY w g nv rv cl):g<w.heap.size:=(h.own.lt g rfl).2
theorem vR{cl:List Int}{nv rv:Value}(h:cl.length=256):(ints cl++[nv,rv]).getD 256 undef=nv:=by
 exact ZmH6
theorem t0{cl:List Int}{nv rv:Value}(h:cl.length=256):(ints cl++[nv,rv]).getD 257 undef=rv:=by
 exact ZmH6
theorem q0v{cl:List Int}{nv rv:Value}(h:cl.length=256){c:Nat}(hc:c<256):(ints cl++[nv,rv]).getD c undef=.int .i64 (cl.getD c 0):=by
 rw[qu,qW (by rw[aS,h];exact hc),<-qu,fF _ _ (by rw[h];exact hc)]
section
variable {w : World} {g : Nat} {nv rv : Value} {cl : List Int}
theorem mY.cellN(h:mY w g nv rv cl):w.cell? ⟨g,256,none⟩=some nv:=by
 rw[h.own.cell (by simp[h.len]),vR h.len]
theorem mY.cellR(h:mY w g nv rv cl):w.cell? ⟨g,257,none⟩=some rv:=by
 rw[h.own.cell (by simp[h.len]),t0 h.len]
theorem mY.free(h:mY w g nv rv cl)(c:Nat):w.frozen? ⟨g,c,none⟩=false:=h.own.free c
theorem mY.setR(h:mY w g nv rv cl)(v:Value):mY (w.setCell ⟨g,257,none⟩ v) g nv v cl/\w.grownBy (w.setCell ⟨g,257,none⟩ v) (some g):=by
 obtain⟨h1,h2⟩:=h.own.store 257 v;refine⟨⟨?_,h.len⟩,h2⟩;have hl:(ints cl).length=256:=by rw[aS,h.len]
 rw[List.set_append_right _ _ (by omega),hl]at h1;exact h1
theorem mY.setN(h:mY w g nv rv cl)(v:Value):mY (w.setCell ⟨g,256,none⟩ v) g v rv cl/\w.grownBy (w.setCell ⟨g,256,none⟩ v) (some g):=by
 obtain⟨h1,h2⟩:=h.own.store 256 v;refine⟨⟨?_,h.len⟩,h2⟩;have hl:(ints cl).length=256:=by rw[aS,h.len]
 rw[List.set_append_right _ _ (by omega),hl]at h1;exact h1
theorem mY.open(h:mY w g nv rv cl):∃A,w.heap[g]? =some (.cells A 29 (0,0))/\A.size=258/\A.toList=ints cl++[nv,rv]:=by
 rcases h.own.1.2 with⟨h1,_⟩|⟨g',cap,cur,h1,_,hg,hnc,hcm,hcs,qcz⟩
 ·cases h1
 simp only[Value.slice.injEq,jC,Addr.mk.injEq,and_true]at h1;obtain⟨rfl,h2,rfl⟩:=h1;have hs:cur.size=258:=by omega
 refine⟨cur,hg,hs,?_⟩;rw[<-qcz,qG];simp[hs,h.len]
theorem q63{A:Array Value}(hA:A.toList=ints cl++[nv,rv])(hl:cl.length=256){next:List (List Int)}{rules:List Int}(hn:o8 w nv next)(hr:eB w rv rules):q1z w A ⟨cl,next,rules⟩:=by
 have hs:A.size=258:=by rw[<-qR,hA];simp[hl]
 have hg:∀i,i<258->A[i]? =some ((ints cl++[nv,rv]).getD i undef):=fun i hi=>by
  rw[<-j9,hA,qu,qy (by simp[hl];omega)];rfl
 exact⟨hs,hl,fun i hi=>by rw[hg i (by omega),q0v hl hi],⟨nv,by rw[hg 256 (by omega),vR hl],hn⟩,⟨rv,by rw[hg 257 (by omega),t0 hl],hr⟩⟩
end
theorem q9B{cl:List Int}{nv rv:Value}(h1:nv.oneCell'=true)(h2:rv.oneCell'=true):∀u∈ints cl++[nv,rv],u.oneCell'=true:=by
 intro u hu;rcases List.mem_append.1 hu with h|h
 ·exact iC _ u h
 simp only[jM,List.not_mem_nil,or_false]at h;rcases h with rfl|rfl
 ·exact h1
 exact h2
theorem fL{ops:Array Oper}{rest:List Oper}{o:Oper}{a:Act}{w:World}{Q:Exit->Act->World->Prop}(hgd:o.guard=none)(x y:Operand)(ho:o.op=.store 29 x y)
  (g:Nat) (hx:a.eval x=.pointer (some ⟨g,0,none⟩)) (C:Array Value) (hy:a.eval y=.agg C) {nv rv nv' rv':Value} {cl cl':List Int} (hC:C.toList=ints cl'++[nv',rv']) (hl:cl'.length=256) (h1:nv'.oneCell'=true) (h2:rv'.oneCell'=true) (hB:mY w g nv rv cl)
  (h:∀w',mY w' g nv' rv' cl'->w.grownBy w' (some g)->wpList prog ops Q rest (a.put o.dst undef) w'):wpList prog ops Q (o::rest) a w:=by
 have hs:C.size=258:=by rw[<-qR,hC,qj,aS,hl];rfl
 have qeK:(ints cl++[nv,rv]).length=258:=by rw[qj,aS,hB.len];rfl
 refine bK hgd 29 x y ho g 29 g 258 258 hx C hy (by rw[hs];kernel_rfl) (ints cl++[nv,rv]) hB.own (by rw[hs,qeK];exact qb _) (by rw[hC];exact q9B h1 h2) fun w' hw hg=>h w' ⟨?_,hl⟩ hg;rw[hs,jp (by rw[qeK];exact qb _),j7,hC]at hw;exact hw
def X7:Array Value:=(ints (List.replicate 256 0)++[Value.slice none 0 0,Value.slice none 0 0]).toArray
theorem vS(W:World):(zeroValue 29).run prog W=.ok (.agg X7) W:=by kernel_rfl
theorem F2(W:World):(Instr.build 29 #[]).run prog W=.ok (.agg X7) W:=by kernel_rfl
theorem mT:X7.toList=ints (List.replicate 256 0)++[Value.slice none 0 0,Value.slice none 0 0]:=rfl
theorem vT:X7.size=258:=by
 rw[<-qR,mT,qj,aS,qP];rfl
theorem tR(w:World):mY (w.alloc (.cells X7 29)) w.heap.size (.slice none 0 0) (.slice none 0 0) (List.replicate 256 0):=by
 refine⟨?_,qP⟩;have h:=cN w w.heap.size X7 29 (by rw[vT];decide) (qb _);rw[mT,vT]at h;exact h
theorem tS{fn:Func}{tmps:Array Value}{w:World}{ds:List Deferred}{s b g:Nat}{nv rv y:Value}{cl:List Int}{next:List (List Int)}{rules:List Int}{R:Ending->World->Prop}(hf:fn.results=#[.cell s 29,.tmp b])(ha:tmps.getD s undef=.pointer (some ⟨g,0,none⟩))(hb:tmps.getD b undef=y)(hd:ds=[])
  (hB:mY w g nv rv cl) (hn:o8 w nv next) (hr:eB w rv rules) (h:∀v,mX w v ⟨cl,next,rules⟩->R (.returned (.tuple #[v,y])) w):bodyPost prog fn R .ret ⟨tmps,ds⟩ w:=by
 obtain⟨A,hg,hs,hA⟩:=hB.open;have hl:=dA (P:=prog) w g 0 258 29 29 A (0,0) _ hg underlying29 rfl (by kernel_rfl) (by rw[hs];decide);have e:A.extract 0 (0+258)=A:=by rw[qI,<-hs];simp
 rw[e]at hl;refine bodyPost_ret (v:=.tuple #[.agg A,y]) ?_ hd (h _ ⟨A,rfl,q63 hA hB.len hn hr⟩);rw[lZ hf ha hl,hb]
theorem vU(w:World):o8 w (.slice none 0 0) []:=⟨[],Sl.nil _,rfl,fun i hi=>absurd hi (qC i)⟩
theorem orQ{x y:Nat}(hx:x<2^256)(hy:y<2^256)(w:World):Calls prog 101 #[fR x,fR y] w (gN (x|||y) w):=by
 have hz:=vG;obtain⟨Z,hZ⟩:∃Z,Z=z4:=⟨_,rfl⟩;rw[<-hZ]at hz;obtain⟨X,hX⟩:∃X,X=(wsV x).toArray:=⟨_,rfl⟩;obtain⟨Y,hY⟩:∃Y,Y=(wsV y).toArray:=⟨_,rfl⟩;have hb0:lB (w.alloc (.cells X 53)) w.heap.size x:=by rw[hX];exact sI w x
 have hb1:lB ((w.alloc (.cells X 53)).alloc (.cells Y 53)) (w.heap.size+1) y:=by
  have:=sI (w.alloc (.cells X 53)) y;rwa [<-hY,show(w.alloc (.cells X 53)).heap.size=w.heap.size+1 by simp]at this
 have hb2:lB (((w.alloc (.cells X 53)).alloc (.cells Y 53)).alloc (.cells Z 53)) (w.heap.size+2) 0:=by
  have:=kP ((w.alloc (.cells X 53)).alloc (.cells Y 53)) Z hZ;rwa [show((w.alloc (.cells X 53)).alloc (.cells Y 53)).heap.size=w.heap.size+2 by simp]at this
 have H0:=qa ((hb0.up (aD _ (.cells Y 53))).up (aD _ (.cells Z 53)));have H1:=qa (hb1.up (aD _ (.cells Z 53)));have H2:=qa hb2;have HBL:Hid (Below w.heap.size w (((w.alloc (.cells X 53)).alloc (.cells Y 53)).alloc (.cells Z 53))):=qa aO;have HBX:Hid (∀W,Calls prog 99 #[fR x] W fun e w'=>e=.returned (.string ⟨(sY x 256).toArray⟩)/\∃y,w'=ext W y):=qa (fun W=>q5B x W);have HBY:Hid (∀W,Calls prog 99 #[fR y] W fun e w'=>e=.returned (.string ⟨(sY y 256).toArray⟩)/\∃y,w'=ext W y):=qa (fun W=>q5B y W)
 have HOF:Hid (∀W,Calls prog 94 #[.string ⟨(sY x 256++sY y 256).toArray⟩] W (gN (x|||y) W)):=qa (fun W=>by
  have h1:=vH x 256;have h2:=vH y 256;have:=ofQ ⟨(sY x 256++sY y 256).toArray⟩ (by show(sY x 256++sY y 256).toArray.size<=_;simp only[jD,qj];omega) W;rwa [qaV,q5o,q5p hx,q5p hy]at this)
 have HCT:Hid ((sY x 256).length+(sY y 256).length<=9223372036854775807):=qa (by
  have h1:=vH x 256;have h2:=vH y 256;omega)
 have qfl:=fun W=>q60 (P:=prog) (sY x 256) (sY y 256) HCT.o W;have HS:Hid (fR x=.agg X/\fR y=.agg Y):=qa (by rw[hX,hY];exact⟨rfl,rfl⟩);rw[HS.o.1,HS.o.2];clear hb0 hb1 hb2 hX hY hZ hx hy;generalize sY x 256=bx at*;generalize sY y 256=bz at*;go_enter func101,ntmps101;go_wp2;generalize ((w.alloc (.cells X 53)).alloc (.cells Y 53)).alloc (.cells Z 53)=w1 at*;refine aR [0,2] [1,3,4,5] [6] (by kernel_rfl) (by kernel_rfl) ?_;simp only[pk];go_simp
 repeat(first
  |(go_big_quiet_want;refine cW _ rfl w.heap.size rfl x (fun w' hw=>by obtain⟨y,rfl⟩:=hw;exact H0.o.up (aI ⟨_,rfl⟩)) ?_;go_simp;go_big_quiet_on)
  |(go_big_quiet_want;refine cW _ rfl (w.heap.size+1) rfl y (fun w' hw=>by obtain⟨y,rfl⟩:=hw;exact H1.o.up (aI ⟨_,rfl⟩)) ?_;go_simp;go_big_quiet_on))
 refine wpQuiet_nil ?_;have hbd:=aX w1 1;rw[show w1.drewN 1=w1.drew from rfl]at hbd;have HD:=qa hbd;have H2d:=qa (H2.o.up hbd);have HBd:=qa (HBL.o.trans (hbd.mono HBL.o.size));clear hbd;unfold aF
 go_wp2_with((with_reducible refine(HBX.o _).mono ?_);rintro e w3 ⟨rfl,hx⟩;have hb:=aI hx;have H23:=qa (H2d.o.up hb);have HB3:=qa (HBd.o.trans (hb.mono HBd.o.size));have HD3:=qa (HD.o.trans (hb.mono HD.o.size));clear hx hb)
 refine⟨aJ HD3.o,?_⟩;unfold aF
 go_wp2_with((with_reducible refine(HBY.o _).mono ?_);rintro e w4 ⟨rfl,hx⟩;have hb:=aI hx;have H24:=qa (H23.o.up hb);have HB4:=qa (HB3.o.trans (hb.mono HB3.o.size));have HD4:=qa (HD3.o.trans (hb.mono HD3.o.size));clear hx hb)
 refine⟨aJ HD4.o,?_⟩;unfold aF;go_wp2;refine⟨aJ HD4.o,?_⟩;unfold aF
 go_wp2_with((with_reducible refine(HOF.o _).mono ?_);rintro e w5 ⟨rfl,hx⟩;have hb:=aI hx;have H25:=qa (H24.o.up hb);have HB5:=qa (HB4.o.trans (hb.mono HB4.o.size));have HD5:=qa (HD4.o.trans (hb.mono HD4.o.size));clear hx hb)
 refine⟨aJ HD5.o,?_⟩;unfold aF;unfold aF
 go_wp2_with(refine b7 rfl _ _ rfl (w.heap.size+2) rfl 0 _ rfl H25.o ?_;intro w6 hB2 hg2;have H26:=qa hB2;have HB6:=qa (HB5.o.grown hg2 HB5.o.size (fun q e=>by cases e;omega));clear hB2 hg2)
 refine⟨trivial,?_⟩;unfold aF;go_wp2;refine dV (s:=4) (ad:=⟨w.heap.size+2,0,none⟩) (x:=fR (x|||y)) rfl rfl rfl H26.o.load ?_;exact⟨rfl,aJ HB6.o⟩
theorem F7(l:eZ)(k:Nat)(c:UInt8)(h:k<l.length)(hc:c∉l.take k)(hd:l.getD k 0≠c):c∉l.take (k+1):=by
 rw[aV l k 0 h];intro h;rcases List.mem_append.1 h with h|h
 ·exact hc h
 exact hd (List.mem_singleton.1 h).symm
theorem q9N(c:UInt8)(w:World):Calls prog 105 #[.int .u8 (c.toNat:Nat)] w fun e w'=>e=.returned (.bool (decide (c∈q0h)))/\∃x,w'=ext w x:=by
 obtain⟨s,hs⟩:∃s:ByteArray,s=⟨#[92,91,93,40,41,123,125,42,43,63,124,46,45,94,47,34]⟩:=⟨_,rfl⟩;have hsz:s.size=16:=by rw[hs];rfl
 have hby:bys s=q0h:=by rw[hs];rfl
 have hix:=fun(i:Nat) (h:i<s.size) (W:World)=>iU (P:=prog) 9 underlying9 h W;rw[hby,hsz]at hix;have HIX:=qa hix;have HT:Hid (∀k,k<16->q0h.getD k 0≠c->c∉q0h.take k->c∉q0h.take (k+1)):=qa (fun k hk h1 h2=>F7 q0h k c hk h2 h1)
 have HM:Hid (∀k,k<16->q0h.getD k 0∈q0h):=qa (fun k hk=>by
  rw[qu,qy (show k<q0h.length from hk)];exact jl _)
 have HL:Hid (q0h.take 16=q0h):=qa rfl;obtain⟨r,hr⟩:∃r,r=decide (c∈q0h):=⟨_,rfl⟩;have HR:=qa hr;rw[<-hr];have HSS:=qa hs;clear hix hby hr hs;generalize q0h=l at*;go_enter func105,ntmps105;go_wp2;rw[<-HSS.o];clear HSS
 go_loop [4] (fun i=>∃k:Nat,k<=16/\i=.int .i64 k/\c∉l.take k) (fun i=>17-(intOf i).toNat)
 case atStart=>exact⟨0,qd _,rfl,by simp⟩
 case round=>
  obtain⟨k,hk,rfl,hn⟩:=hrel;have HN:=qa hn;clear hn;by_cases hlt:k<16
  ·exact ZmH0
  obtain rfl:k=16:=by omega
  exact ZmH7
theorem q7Y(c:UInt8)(w:World):Calls prog 96 #[.int .u8 (c.toNat:Nat)] w fun e w'=>e=.returned (.bool (decide (c∈q0Y)))/\∃x,w'=ext w x:=by
 obtain⟨s,hs⟩:∃s:ByteArray,s=⟨#[92,91,93,40,41,123,125,42,43,63,124,46]⟩:=⟨_,rfl⟩;have hsz:s.size=12:=by rw[hs];rfl
 have hby:bys s=q0Y:=by rw[hs];rfl
 have hix:=fun(i:Nat) (h:i<s.size) (W:World)=>iU (P:=prog) 9 underlying9 h W;rw[hby,hsz]at hix;have HIX:=qa hix;have HT:Hid (∀k,k<12->q0Y.getD k 0≠c->c∉q0Y.take k->c∉q0Y.take (k+1)):=qa (fun k hk h1 h2=>F7 q0Y k c hk h2 h1)
 have HM:Hid (∀k,k<12->q0Y.getD k 0∈q0Y):=qa (fun k hk=>by
  rw[qu,qy (show k<q0Y.length from hk)];exact jl _)
 have HL:Hid (q0Y.take 12=q0Y):=qa rfl;obtain⟨r,hr⟩:∃r,r=decide (c∈q0Y):=⟨_,rfl⟩;have HR:=qa hr;rw[<-hr];have HSS:=qa hs;clear hix hby hr hs;generalize q0Y=l at*;go_enter func96,ntmps96;go_wp2;rw[<-HSS.o];clear HSS
 go_loop [4] (fun i=>∃k:Nat,k<=12/\i=.int .i64 k/\c∉l.take k) (fun i=>13-(intOf i).toNat)
 case atStart=>exact⟨0,qd _,rfl,by simp⟩
 case round=>
  obtain⟨k,hk,rfl,hn⟩:=hrel;have HN:=qa hn;clear hn;by_cases hlt:k<12
  ·exact ZmH0
  obtain rfl:k=12:=by omega
  exact ZmH7
theorem qch(c:UInt8)(w:World):Calls prog 104 #[.int .u8 (c.toNat:Nat)] w fun e w'=>e=.returned (.int .i64 (dgR c))/\∃x,w'=ext w x:=by
 have hc:=c.toNat_lt;have HD:Hid (dgR c=if 48<=c.toNat/\c.toNat<=57 then(c.toNat:Int)-48 else if 97<=c.toNat/\c.toNat<=102 then(c.toNat:Int)-97+10 else -1):=qa (by unfold dgR;rfl);generalize dgR c=D at*;generalize c.toNat=n at*;by_cases h1:48<=n/\n<=57
 ·obtain⟨a1,a2⟩:=h1
  have HE:Hid (D=(n:Int)-48):=qa (by rw[HD.o,qw ⟨a1,a2⟩]);clear HD;go_enter func104,ntmps104;go_wp2;go_ret;refine⟨?_,(aJ aO)⟩;rw[HE.o];rfl
 by_cases h2:97<=n/\n<=102
 ·obtain⟨a1,a2⟩:=h2
  have HE:Hid (D=(n:Int)-97+10):=qa (by rw[HD.o,qv h1,qw ⟨a1,a2⟩]);have a3:¬n<=57:=by omega
  have a4:48<=n:=by omega
  clear HD h1;go_enter func104,ntmps104;go_wp2;go_ret;refine⟨?_,(aJ aO)⟩;rw[HE.o];rfl
 have HE:Hid (D= -1):=qa (by rw[HD.o,qv h1,qv h2]);have HE2:Hid (Ending.returned (Value.int .i64 (-1))=Ending.returned (.int .i64 D)):=qa (by rw[HE.o]);clear HD HE;by_cases a1:48<=n
 ·have a2:¬n<=57:=fun h=>h1 ⟨a1,h⟩
  clear h1;by_cases a3:97<=n
  ·have a4:¬n<=102:=fun h=>h2 ⟨a3,h⟩
   exact ZmH5
  exact ZmH5
 have a3:¬97<=n:=by omega
 clear h1 h2;go_enter func104,ntmps104;go_wp2;go_ret;exact⟨HE2.o,(aJ aO)⟩
end Go.Cm
namespace Go.Cm
open Go.RowKit Go.Proofs
structure dY(w:World)(g:Nat)(s:ByteArray)(z:PS):Prop where
 own:Own w g 102 (.slice (some ⟨g,0,none⟩) 4 4) [.string s,.int .i64 z.p,.int .i64 z.e,.int .i64 z.b]
section
variable {w : World} {g : Nat} {s : ByteArray} {z : PS}
theorem dY.up{w':World}(h:dY w g s z)(hb:Below w.heap.size w w'):dY w' g s z:=⟨h.own.up hb⟩
theorem dY.lt(h:dY w g s z):g<w.heap.size:=(h.own.lt g rfl).2
theorem dY.c0(h:dY w g s z):w.cell? ⟨g,0,none⟩=some (.string s):=h.own.cell (by simp)
theorem dY.c1(h:dY w g s z):w.cell? ⟨g,1,none⟩=some (.int .i64 z.p):=h.own.cell (by simp)
theorem dY.c2(h:dY w g s z):w.cell? ⟨g,2,none⟩=some (.int .i64 z.e):=h.own.cell (by simp)
theorem dY.c3(h:dY w g s z):w.cell? ⟨g,3,none⟩=some (.int .i64 z.b):=h.own.cell (by simp)
theorem dY.free(h:dY w g s z)(c:Nat):w.frozen? ⟨g,c,none⟩=false:=h.own.free c
theorem dY.set1(h:dY w g s z)(r:Nat):dY (w.setCell ⟨g,1,none⟩ (.int .i64 r)) g s ⟨r,z.e,z.b⟩/\w.grownBy (w.setCell ⟨g,1,none⟩ (.int .i64 r)) (some g):=⟨⟨(h.own.store 1 _).1⟩,(h.own.store 1 _).2⟩
end
theorem dY.set23{w:World}{g:Nat}{s:ByteArray}{z:PS}(h:dY w g s z)(e b:Nat):dY ((w.setCell ⟨g,2,none⟩ (.int .i64 e)).setCell ⟨g,3,none⟩ (.int .i64 b)) g s ⟨z.p,e,b⟩/\w.grownBy ((w.setCell ⟨g,2,none⟩ (.int .i64 e)).setCell ⟨g,3,none⟩ (.int .i64 b)) (some g):=by
 have h1:=h.own.store 2 (.int .i64 e);have h2:=h1.1.store 3 (.int .i64 b);exact⟨⟨h2.1⟩,aL h1.2 h2.2⟩
theorem W2{w:World}{g:Nat}{s:ByteArray}{z:PS}(h:dY w g s z)(e a:Nat):
  Calls prog 39 #[.pointer (some ⟨g,0,none⟩),.int .i64 e,.int .i64 a] w fun en w'=>en=.returned (.tuple #[])/\dY w' g s (bV e a z)/\w.grownBy w' (some g):=by
 have HB:=qa h;have c2:=h.c2;have c3:=h.c3;have hg:=h.lt;have f2:=h.free 2;have f3:=h.free 3;have HS:=qa (h.set23 e a);clear h;by_cases he:z.e=0
 ·have he':((z.e:Int)==0)=true:=by simp[he]
  have HF:Hid (bV e a z=⟨z.p,e,a⟩):=qa (by unfold bV;rw[qw he]);go_enter func39,ntmps39;go_wp2
  go_end0
  rw[HF.o];exact⟨rfl,HS.o.1,HS.o.2⟩
 have he':((z.e:Int)==0)=false:=by
  have:z.e≠0:=he;simpa using this
 have HF:Hid (bV e a z=z):=qa (by unfold bV;rw[qv he]);go_enter func39,ntmps39;go_wp2
 go_end0
 rw[HF.o];exact⟨rfl,HB.o,dL _ _⟩
theorem dY.keep{w w':World}{g:Nat}{s:ByteArray}{z:PS}{row:Option Nat}(h:dY w g s z)(hg:w.grownBy w' row)(hne:row≠some g):dY w' g s z:=⟨h.own.keep hg (.inr (fun e=>hne e.symm))⟩
theorem dY.inc{w:World}{g:Nat}{s:ByteArray}{z:PS}(h:dY w g s z):dY (w.setCell ⟨g,1,none⟩ (.int .i64 ((z.p:Int)+1))) g s (bZ z)/\w.grownBy (w.setCell ⟨g,1,none⟩ (.int .i64 ((z.p:Int)+1))) (some g):=h.set1 (z.p+1)
theorem dY.inc2{w:World}{g:Nat}{s:ByteArray}{z:PS}(h:dY w g s (bZ z)):dY (w.setCell ⟨g,1,none⟩ (.int .i64 ((z.p:Int)+1+1))) g s (bZ (bZ z))/\w.grownBy (w.setCell ⟨g,1,none⟩ (.int .i64 ((z.p:Int)+1+1))) (some g):=h.set1 (z.p+1+1)
theorem dY.c11{w:World}{g:Nat}{s:ByteArray}{z:PS}(h:dY w g s (bZ z)):w.cell? ⟨g,1,none⟩=some (.int .i64 ((z.p:Int)+1)):=h.c1
def sM(v:Value)(g:Nat)(s:ByteArray)(z:PS)(w:World)(e:Ending)(w':World):Prop:=e=.returned v/\dY w' g s z/\w.grownBy w' (some g)
def lU(s:eZ)(c:UInt8)(z:PS):Bool:=decide (nxR s z=some c)
theorem isQ{w:World}{g:Nat}{s:ByteArray}{z:PS}(h:dY w g s z)(c:UInt8):
  Calls prog 84 #[.pointer (some ⟨g,0,none⟩),.int .u8 (c.toNat:Nat)] w fun e w'=>e=.returned (.bool (lU (bys s) c z))/\∃x,w'=ext w x:=by
 have c0:=h.c0;have c1:=h.c1;have c2:=h.c2;have hg:=h.lt;have HX:=qa (@iU prog 9 (by kernel_rfl) s z.p);obtain⟨R,hR⟩:∃R,R=lU (bys s) c z:=⟨_,rfl⟩;rw[<-hR];unfold lU nxR at hR;rw[cH]at hR;clear h;by_cases he:z.e=0
 ·have he':((z.e:Int)==0)=true:=by simp[he]
  by_cases hp:z.p<s.size
  ·have hix:=fun W=>HX.o hp W
   have hp':(z.p:Int)<(s.size:Int):=by omega
   rw[qw ⟨he,hp⟩]at hR;generalize (bys s).getD z.p 0=d at*;clear HX he;by_cases hd:d=c
   ·have HR:Hid (R=true):=qa (by rw[hR,hd];simp)
    have hdn:((d.toNat:Int)==(c.toNat:Int))=true:=by rw[hd];simp
    clear hR hd;go_enter func84,ntmps84;go_wp2
    go_quiet (fail)
    go_wp2;go_ret;exact⟨by rw[HR.o];rfl,(aJ aO)⟩
   have HR:Hid (R=false):=qa (by rw[hR];simpa using hd);have hdn:=pG hd;clear hR hd;go_enter func84,ntmps84;go_wp2
   go_quiet (fail)
   go_wp2;go_ret;exact⟨by rw[HR.o];rfl,(aJ aO)⟩
  have hp':¬(z.p:Int)<(s.size:Int):=by omega
  have HR:Hid (R=false):=qa (by rw[hR,qv (fun h=>hp h.2)];simp);clear hR HX;go_enter func84,ntmps84;go_wp2
  go_quiet (fail)
  go_wp2;go_ret;exact⟨by rw[HR.o];rfl,(aJ aO)⟩
 have he':((z.e:Int)==0)=false:=by
  have:z.e≠0:=he;simpa using this
 have HR:Hid (R=false):=qa (by rw[hR,qv (fun h=>he h.1)];simp);clear HX hR;go_enter func84,ntmps84;go_wp2
 go_quiet (fail)
 go_wp2;go_ret;exact⟨by rw[HR.o];rfl,(aJ aO)⟩
theorem kU(s:eZ)(c:UInt8)(z:PS):bU s c z=if lU s c z then(true,bZ z)else(false,z):=by
 unfold bU lU;by_cases h:nxR s z=some c
 ·rw[qw h,qw (by simpa using h)]
 rw[qv h,qv (by simpa using h)]
theorem nW{s:eZ}{c:UInt8}{z:PS}(h:lU s c z=true):z.e=0/\z.p<s.length/\nxR s z=some c:=by
 have h1:nxR s z=some c:=by simpa[lU]using h
 exact⟨(k9 h1).1,(k9 h1).2.1,h1⟩
theorem xK{w:World}{g:Nat}{s:ByteArray}{z:PS}(h:dY w g s z)(hs:s.size<=1000000)(c:UInt8):
  Calls prog 69 #[.pointer (some ⟨g,0,none⟩),.int .u8 (c.toNat:Nat)] w (sM (.bool (bU (bys s) c z).1) g s (bU (bys s) c z).2 w):=by
 have HB:=qa h;have HN:=qa (isQ h c);have hg:=h.lt;rw[kU];clear h;cases hn:lU (bys s) c z with
 |false=>
  rw[hn]at HN;clear hn;go_enter func69,ntmps69
  go_wp2_with((with_reducible refine(HN.o).mono ?_);rintro e w1 ⟨rfl,hx⟩;(have HB1:=qa (HB.o.up (aI hx)));(have HG1:=qa (aK (aI hx) (some g)));clear hx)
  go_ret;exact⟨rfl,HB1.o,HG1.o⟩
 |true=>
  obtain⟨-,hzp,-⟩:=nW hn;rw[cH]at hzp;rw[hn]at HN;clear hn;go_enter func69,ntmps69
  go_wp2_with((with_reducible refine(HN.o).mono ?_);rintro e w1 ⟨rfl,hx⟩;(have HB1:=qa (HB.o.up (aI hx)));(have HG1:=qa (aK (aI hx) (some g)));(have c1:=HB1.o.c1);(have f1:=HB1.o.free 1);(have HS:=qa (HB1.o.inc));clear hx)
  go_ret;exact⟨rfl,HS.o.1,aL HG1.o HS.o.2⟩
structure Qs(w0 w:World)(g:Nat)(s:ByteArray)(z:PS):Prop where
 box:dY w g s z
 gr:w0.grownBy w (some g)
 gl:g<w0.heap.size
section
variable {w0 w w' : World} {g : Nat} {s : ByteArray} {z : PS}
theorem Qs.start(h:dY w g s z):Qs w w g s z:=⟨h,dL _ _,h.lt⟩
theorem Qs.below(h:Qs w0 w g s z)(hb:Below w.heap.size w w'):Qs w0 w' g s z:=⟨h.box.up hb,aL h.gr (aK hb _),h.gl⟩
theorem Qs.ext(h:Qs w0 w g s z)(hx:∃y,w'=ext w y):Qs w0 w' g s z:=h.below (aI hx)
theorem Qs.act{z':PS}(h:Qs w0 w g s z)(hB:dY w' g s z')(hg:w.grownBy w' (some g)):Qs w0 w' g s z':=⟨hB,aL h.gr hg,h.gl⟩
theorem Qs.far{row:Option Nat}(h:Qs w0 w g s z)(hg:w.grownBy w' row)(hq:∀q,row=some q->w0.heap.size<=q):Qs w0 w' g s z:=
 ⟨h.box.keep hg (fun e=>by have:=hq g e;have:=h.gl;omega),oM h.gr hg hq,h.gl⟩
theorem Qs.dr(h:Qs w0 w g s z)(n:Nat):Qs w0 (w.drewN n) g s z:=h.below (aX w n)
theorem Qs.inc(h:Qs w0 w g s z):Qs w0 (w.setCell ⟨g,1,none⟩ (.int .i64 ((z.p:Int)+1))) g s (bZ z):=h.act h.box.inc.1 h.box.inc.2
theorem Qs.inc2(h:Qs w0 w g s (bZ z)):Qs w0 (w.setCell ⟨g,1,none⟩ (.int .i64 ((z.p:Int)+1+1))) g s (bZ (bZ z)):=h.act h.box.inc2.1 h.box.inc2.2
theorem Qs.ret(h:Qs w0 w g s z){v:Value}{e:Ending}(he:e=.returned v):sM v g s z w0 e w:=⟨he,h.box,h.gr⟩
end
end Go.Cm
namespace Go.Cm
open Go.RowKit Go.Proofs Go.Maps
def nX(rows:List (List Int))(k:Int):List UInt8:=rows.flatMap fun r=>o6 (r.getD k.toNat 0)
theorem q9Y{rows:List (List Int)}{a b:Int}(ha:∀r∈rows,0<=r.getD a.toNat 0/\r.getD a.toNat 0<65536)(hb:∀r∈rows,0<=r.getD b.toNat 0/\r.getD b.toNat 0<65536):nX rows a=nX rows b↔pN rows a=pN rows b:=by
 unfold nX pN
 induction rows with
 |nil=>simp
 |cons r rows ih=>
  have ih:=ih (fun x hx=>ha x (by simp[hx])) (fun x hx=>hb x (by simp[hx]));simp only[List.flatMap_cons,qJ]
  constructor
  ·intro h
   obtain⟨h1,h2⟩:=rR (ha r (by simp)) (hb r (by simp)) h;rw[h1,ih.1 h2]
  intro h;injection h with h1 h2;rw[h1,ih.2 h2]
theorem q2Z(rows:List (List Int))(k:Int):(nX rows k).length=2*rows.length:=by
 unfold nX
 induction rows with
 |nil=>rfl
 |cons r rows ih=>rw[List.flatMap_cons,qj,ih];simp[o6];omega
structure wI(w:World)(g:Nat)(cl:List Int):Prop where
 own:Own w g 25 (.slice (some ⟨g,0,none⟩) 256 256) (ints cl)
 len:cl.length=256
def lW:Array Value:=(ints (List.replicate 256 0)).toArray
theorem wA(W:World):(zeroValue 25).run prog W=.ok (.agg lW) W:=by kernel_rfl
theorem tB:lW.toList=ints (List.replicate 256 0):=rfl
theorem q0I:lW.size=256:=by rw[<-qR,tB,aS,qP]
theorem W7(w:World):wI (w.alloc (.cells lW 25)) w.heap.size (List.replicate 256 0):=by
 refine⟨?_,qP⟩;have h:=cN w w.heap.size lW 25 (by rw[q0I];decide) (qb _);rw[tB,q0I]at h;exact h
section
variable {w w' : World} {g : Nat} {cl : List Int}
theorem wI.keep{row:Option Nat}(h:wI w g cl)(hg:w.grownBy w' row)(hne:row≠some g):wI w' g cl:=⟨h.own.keep hg (.inr (fun e=>hne e.symm)),h.len⟩
theorem wI.up(h:wI w g cl)(hb:Below w.heap.size w w'):wI w' g cl:=⟨h.own.up hb,h.len⟩
theorem wI.upB{n:Nat}(h:wI w g cl)(hn:w.heap.size<=n)(hb:Below n w w'):wI w' g cl:=⟨h.own.upB hn hb,h.len⟩
theorem wI.lt(h:wI w g cl):g<w.heap.size:=(h.own.lt g rfl).2
theorem wI.cell(h:wI w g cl){c:Nat}(hc:c<256):w.cell? ⟨g,c,none⟩=some (.int .i64 (cl.getD c 0)):=by
 rw[h.own.cell (by rw[aS,h.len];exact hc),fF _ _ (by rw[h.len];exact hc)]
theorem wI.free(h:wI w g cl)(c:Nat):w.frozen? ⟨g,c,none⟩=false:=h.own.free c
theorem wI.set(h:wI w g cl)(c:Nat)(k:Int):wI (w.setCell ⟨g,c,none⟩ (.int .i64 k)) g (cl.set c k)/\w.grownBy (w.setCell ⟨g,c,none⟩ (.int .i64 k)) (some g):=by
 obtain⟨h1,h2⟩:=h.own.store c (.int .i64 k);rw[fK]at h1;exact⟨⟨h1,by simp[h.len]⟩,h2⟩
theorem wI.open(h:wI w g cl):∃A,w.heap[g]? =some (.cells A 25 (0,0))/\A.size=256/\A.toList=ints cl:=by
 rcases h.own.1.2 with⟨h1,_⟩|⟨g',cap,cur,h1,_,hg,hnc,hcm,hcs,qcz⟩
 ·cases h1
 simp only[Value.slice.injEq,jC,Addr.mk.injEq,and_true]at h1;obtain⟨rfl,h2,rfl⟩:=h1;have hs:cur.size=256:=by omega
 refine⟨cur,hg,hs,?_⟩;rw[<-qcz,qG];simp[hs,h.len]
end
theorem q8a{ops:Array Oper}{rest:List Oper}{o:Oper}{a:Act}{w:World}{Q:Exit->Act->World->Prop}(hgd:o.guard=none)(x:Operand)(ho:o.op=.load 25 x)
  (g:Nat) (hx:a.eval x=.pointer (some ⟨g,0,none⟩)) (A:Array Value) (hs:A.size=256) (hg:w.heap[g]? =some (.cells A 25 (0,0)))
  (h:wpList prog ops Q rest (a.put o.dst (.agg A)) w):wpList prog ops Q (o::rest) a w:=
 kI hgd 25 x ho g 0 256 hx 25 A A (0,0) _ hg underlying25 rfl (by kernel_rfl) (by rw[hs];decide) (by rw[<-hs];simp) h
theorem J6{C:World->Prop}{o:Oper}{a:Act}{K:Act->Prop}(x:Operand)(ho:o.op=.load 25 x)(g:Nat)(hx:a.eval x=.pointer (some ⟨g,0,none⟩))(A:Array Value)(hs:A.size=256)
  (hg:∀w',C w'->w'.heap[g]? =some (.cells A 25 (0,0))) (h:K (a.put o.dst (.agg A))):o.quiet prog a C K:=by
 refine⟨.agg A,fun w' hw'=>?_,h⟩;have hl:=dA (P:=prog) w' g 0 256 25 25 A (0,0) _ (hg w' hw') underlying25 rfl (by kernel_rfl) (by rw[hs];decide);unfold Oper.quietAt execOp;simp only[ho,hx,Instr.loadAt,Instr.sureAddr,Sem.run_bind,Sem.run_pure,Result.andThen_ok,hl,Oper.quietUpon];exact⟨trivial,by rw[<-hs];simp⟩
theorem rV{P:Program}{fn:Func}{tmps:Array Value}{w:World}{a t b:Nat}{ad:Addr}{v:Value}(hf:fn.results=#[.tmp b,.cell a t])(ha:tmps.getD a undef=.pointer (some ad))(hl:(loadVar t ad).run P w=.ok v w):
  (results fn tmps).run P w=.ok (.tuple #[tmps.getD b undef,v]) w:=by
 have ha':tmps[a]?.getD undef=.pointer (some ad):=by simpa using ha
 simp[results,hf,asAddr,ha',hl]
theorem xN{P:Program}{fn:Func}{tmps:Array Value}{w:World}{ds:List Deferred}{s b t:Nat}{ad:Addr}{x y:Value}{R:Ending->World->Prop}(hf:fn.results=#[.tmp b,.cell s t])(ha:tmps.getD s undef=.pointer (some ad))(hb:tmps.getD b undef=y)(hd:ds=[])
  (hl:(loadVar t ad).run P w=.ok x w) (h:R (.returned (.tuple #[y,x])) w):bodyPost P fn R .ret ⟨tmps,ds⟩ w:=
 bodyPost_ret (v:=.tuple #[y,x]) (by rw[rV hf ha hl,hb]) hd h
theorem Own.off{w:World}{B E k:Nat}{v:Value}{xs:List Value}(h:Own w B E v xs)(hk:k<B):v.ownBlock=none\/v.ownBlock≠some k:=by
 cases hu:v.ownBlock with
 |none=>exact .inl rfl
 |some q=>exact .inr (fun e=>by have:=h.lt q hu;injection e with e;omega)
theorem Own.ne_of{w:World}{B E k:Nat}{v:Value}{xs:List Value}(h:Own w B E v xs)(hk:k<B):some k≠v.ownBlock:=fun e=>by have:=h.lt k e.symm;omega
def q9Z(d:Dfa)(rows:List (List Int))(w:World)(e:Ending)(w':World):Prop:=∃vl B,e=.returned (.tuple #[vl,.agg B])/\Own w' w.heap.size 3 vl (ints (G5 rows d.cls))/\B.toList=ints (q0Z rows d.cls)/\Below w.heap.size w w'
theorem q8b(v u:Value)(d:Dfa)(rows:List (List Int))(w:World)(h:mX w v d)(hu:o8 w u rows)(hk:∀c,c<256->0<=d.cls.getD c 0/\∀j,j<rows.length->d.cls.getD c 0<((rows.getD j []).length))
  (hx:∀j,j<rows.length->∀i,0<=(rows.getD j []).getD i 0/\(rows.getD j []).getD i 0<65536) (hn:rows.length<=1000):Calls prog 34 #[v,u] w (q9Z d rows w):=by
 obtain⟨A,rfl,hs,hl,hc,-,-⟩:=h;obtain⟨oa,cap,b,off,rfl,hd,hro⟩:=hu.open;have hix:=aT (P:=prog) 26 27 underlying26 (by kernel_rfl) hd;obtain⟨B,hB⟩:∃B,A.extract 0 256=B:=⟨_,rfl⟩
 have hBc:∀i,i<256->B[i]? =some (.int .i64 (d.cls.getD i 0)):=fun i hi=>by
  rw[<-hB,Array.getElem?_extract,qw (by omega)];simpa using hc i hi
 have HBL:=qa hd.hblk;have HD:=qa hd;clear hd;have HRO:=qa hro;clear hro;have HS:=qa hs;clear hs hc;have HB:=qa hB;clear hB;have HC:=qa hBc;clear hBc;have HL:=qa hl;clear hl;have HK:=qa hk;clear hk;have HX:=qa hx;clear hx;have HG:=qa (heap_alloc_new w (.cells A 29));have hz:=wA;obtain⟨Z,hZ⟩:∃Z,Z=lW:=⟨_,rfl⟩;rw[<-hZ]at hz;have hmm:=@run_makeMap prog;have HW4:Hid (Below (w.heap.size+2) ((w.alloc (.cells A 29)).alloc (.cells Z 25)) ((((w.alloc (.cells A 29)).alloc (.cells Z 25)).alloc (.cells Z 25)).alloc (.map #[] 0))):=qa (((qn _ _).alloc (by simp) _).alloc (by simp) _)
 have HG4:Hid (((((w.alloc (.cells A 29)).alloc (.cells Z 25)).alloc (.cells Z 25)).alloc (.map #[] 0)).heap[w.heap.size]? =some (.cells A 29 (0,0))):=qa (by
  rw[HW4.o.block _ (by omega),(aD (w.alloc (.cells A 29)) _).block _ (by simp)];exact HG.o)
 have HC4:Hid (wI ((((w.alloc (.cells A 29)).alloc (.cells Z 25)).alloc (.cells Z 25)).alloc (.map #[] 0)) (w.heap.size+2) (List.replicate 256 0)):=qa (by
  have h1:=(W7 ((w.alloc (.cells A 29)).alloc (.cells lW 25))).up (aD _ (.map #[] 0));rw[<-hZ]at h1;simpa using h1)
 have HR4:Hid (wI ((w.alloc (.cells A 29)).alloc (.cells Z 25)) (w.heap.size+1) (List.replicate 256 0)):=qa (by
  have h1:=W7 (w.alloc (.cells A 29));rw[<-hZ]at h1;simpa using h1)
 have HM4:Hid (eS prog 9 3 (fun s:List UInt8=>Lit.string s) ((((w.alloc (.cells A 29)).alloc (.cells Z 25)).alloc (.cells Z 25)).alloc (.map #[] 0)) (w.heap.size+3) []):=qa (by
  have h1:=eS.made (P:=prog) (K:=9) (E:=3) (((w.alloc (.cells A 29)).alloc (.cells Z 25)).alloc (.cells Z 25)) (fun s:List UInt8=>Lit.string s);simpa using h1)
 clear hZ
 have hPC:∀a∈d.cls,∀b∈d.cls,pN rows a=pN rows b↔nX rows a=nX rows b:=fun a ha b hb=>(q9Y (fun r hr=>by
   obtain⟨j,hj,rfl⟩:=List.mem_iff_getElem.1 hr;have:=HX.o j hj a.toNat;simpa[List.getD,hj]using this) (fun r hr=>by
   obtain⟨j,hj,rfl⟩:=List.mem_iff_getElem.1 hr;have:=HX.o j hj b.toNat;simpa[List.getD,hj]using this)).symm
 have HPC:=qa (f7 hPC);clear hPC;go_enter func34,ntmps34
 go_wp2_with(refine lN rfl _ rfl w.heap.size rfl A B HS.o HB.o HG4.o ?_)
 go_loopg [6,20] 257 (fun gk vl i wr=>∃(k:Nat) (cl:List Int),k<=256/\i=.int .i64 k/\Own wr (w.heap.size+4) 3 vl (ints (aG (nX rows) (d.cls.take k)))/\wI wr (w.heap.size+2) cl/\eS prog 9 3 (fun s:List UInt8=>Lit.string s) wr (w.heap.size+3) (eH ((d.cls.take k).map (nX rows)))/\Hid (∀i,i<k->cl.getD i 0=(aW (nX rows) d.cls (d.cls.getD i 0):Nat))/\Below (w.heap.size+2) ((w.alloc (.cells A 29)).alloc (.cells Z 25)) wr/\gk=257-k)
 case atStart=>exact⟨0,_,qd _,rfl,Own.nil _ _ _,HC4.o,HM4.o,qa (fun i hi=>absurd hi (qC i)),HW4.o,rfl⟩
 case round=>
  clear HC4 HM4 HW4 HG4 hmm hz;obtain⟨k,cl,hk,rfl,how,hbx,hmap,HCL,qcw,rfl⟩:=hrel;have hsz:w.heap.size+2<=wr.heap.size:=by have:=qcw.size;simpa using this
  have HW:=qa qcw;clear qcw;have HO:=qa how;clear how;have HBX:=qa hbx;clear hbx;have HMP:=qa hmap;clear hmap;by_cases hlt:k<256
  ·have hlc:k<d.cls.length:=by rw[HL.o];exact hlt
   have qff:=fun W=>vQ hlt (HC.o k hlt) W;obtain⟨hk0,hkr⟩:=HK.o k hlt;have HT:=qa (aV d.cls k 0 hlc);have HKC:=qa hkr;clear hkr;have qll:Hid (d.cls.getD k 0∈d.cls):=qa (cE _ _ _ hlc);have HKV:Hid (d.cls.getD k 0=d.cls.getD k 0):=qa rfl;generalize qib:d.cls.getD k 0=kap at HT HKC qll HKV qff hk0;have qj1:=qa qib;clear qib;go_wp2;obtain⟨wo,rfl⟩:∃wo:World,wo=wr:=⟨_,rfl⟩
   go_loopg [11,26] (rows.length+1) (fun gk vb i wr=>∃j:Nat,j<=rows.length/\i=.int .i64 j/\Own wr wo.heap.size 5 vb (bG (nX (rows.take j) kap))/\Below wo.heap.size wo wr/\gk=rows.length+1-j)
   case atStart=>exact⟨0,qd _,rfl,Own.nil _ _ _,qn _ _,rfl⟩
   case round=>
    obtain⟨j,hj,rfl,how,qcw,rfl⟩:=hrel;have qcH:=qcw.size;have HBB:=qa qcw;clear qcw;have HOB:=qa how;clear how;by_cases qcC:j<rows.length
    ·obtain⟨oi,ci,bi,fi,hck,hdk,hcj,-⟩:=HRO.o j qcC
     have h1:=HKC.o j qcC;have hb:=HBL.o (by omega);have hbi:=hdk.hblk (by omega);have qd5:=aT (P:=prog) 27 3 underlying27 (by kernel_rfl) hdk
     have hcw:∀q o,q<w.heap.size->wr.cell? ⟨q,o,none⟩=w.cell? ⟨q,o,none⟩:=fun q o hq=>by
      rw[HBB.o.cell (p:=⟨q,o,none⟩) (show q<wo.heap.size by omega),HW.o.cell (p:=⟨q,o,none⟩) (show q<w.heap.size+2 by omega),World.cell?_alloc_past _ _ _ (show q<(w.alloc (.cells A 29)).heap.size by simp;omega),World.cell?_alloc_past _ _ _ hq]
     have hcell:=(hcw b (off+j) hb).trans hck;have qfk:=(hcw bi (fi+kap.toNat) hbi).trans (hcj kap.toNat (by omega))
     have HRT:Hid (bG (nX (rows.take (j+1)) kap)=bG (nX (rows.take j) kap)++bG (o6 ((rows.getD j []).getD kap.toNat 0))):=qa (by
      rw[aV rows j [] qcC,<-nL];simp[nX])
     have hll:∀y,(nX (rows.take j) kap).length+(o6 y).length<=4294967296:=fun y=>by rw[q2Z];simp[o6];omega
     have HLL:=qa (hll ((rows.getD j []).getD kap.toNat 0));clear hll;clear hck hcj hcw;have HDK:=qa hdk;clear hdk;generalize rows.getD j []=row at*;generalize row.getD kap.toNat 0=y at*;have hs1:b<wr.heap.size:=by omega
     have hs2:bi<wr.heap.size:=by omega
     have hn1:some b≠u11.ownBlock:=fun e=>by have:=HOB.o.lt b e.symm;omega
     have hn2:some bi≠u11.ownBlock:=fun e=>by have:=HOB.o.lt bi e.symm;omega
     go_wp2;refine oT u11.ownBlock [0,1,2,3,4,5,6,7,8,9,10,11] [12,13,14] (by kernel_rfl) (by kernel_rfl) ?_;simp only[pk]
     repeat(go_big_quiet_step (fail))
     refine wpQuiet_nil ?_
     (unfold aF;go_wp2;refine⟨dD (aK aO _),?_⟩)
     unfold aF
     have hx:Sl (wr.alloc (.cells #[.int .u8 (y%256),.int .u8 (y/256%256)] 5)).drew (.slice (some ⟨wr.heap.size,0,none⟩) 2 2) (bG (o6 y)):=by
      have h1:=(eK wr #[.int .u8 (y%256),.int .u8 (y/256%256)] 5 (by simp)).up (aX _ 1);rw[<-World.drew_is_drewN]at h1;rw[mA];simpa using h1
     have HXX:=qa hx;clear hx
     go_wp2_with(at_builtin;go_loud (refine bF rfl (.tmp 30) (.tmp 42) 58 rfl wo.heap.size 5 (.int .u8 0) 1 underlying58 (by kernel_rfl) rfl (by decide) u11 (bG (nX (rows.take j) kap)) rfl (HOB.o.up aO) (.slice (some ⟨wr.heap.size,0,none⟩) 2 2) (bG (o6 y)) rfl HXX.o (rU _) (by rw[dZ,dZ];exact HLL.o) (qc qcH (by simp)) ?_);intro v' w1 hown1 hg1 hk1;have HO1:=qa hown1;have HG1:=qa hg1;clear hown1 hg1 hk1)
     refine⟨dD (aL (aK aO _) HG1.o),?_⟩;unfold aF;go_wp2;refine⟨dD (aL (aK aO _) HG1.o),?_⟩;unfold aF;intro _ hz;clear hz;go_wp2
     go_roundg (rows.length+1-(j+1))
     case measure=>omega
     case rel=>
      refine⟨j+1,by omega,by go_num,?_,?_,rfl⟩
      ·rw[HRT.o];exact HO1.o
      exact eO (B:=wo.heap.size) (gQ (HBB.o.alloc qcH _)) (by simp;omega) (HOB.o.up aO) HG1.o
    have hjn:j=rows.length:=by omega
    subst hjn;rw[j3]at HOB;have hcv:=lV (P:=prog) wr 58 9 5 underlying58 underlying5 underlying9 u11 _ HOB.o.sl;have HTL:Hid ((nX rows kap).length<=2000):=qa (by rw[q2Z];omega);have HTM:Hid (((d.cls.take (k+1)).map (nX rows))=(d.cls.take k).map (nX rows)++[nX rows kap]):=qa (by rw[HT.o,qH];rfl);have HOX:=qa (HO.o.up HBB.o);have qeF:=qa (HBX.o.up HBB.o);have HMX:=qa (HMP.o.up HBB.o);have HWX:=qa (HW.o.trans (HBB.o.mono hsz))
    have HPV:Hid (aW (nX rows) d.cls kap=idx (eH ((d.cls.take (k+1)).map (nX rows))) (nX rows kap)):=qa (by
     have h:=oH ((d.cls.take (k+1)).map (nX rows)) ((d.cls.drop (k+1)).map (nX rows)) (x:=nX rows kap) (by rw[HTM.o];simp);rw[<-qH,j8]at h;rw[<-h,<-bL];rfl)
    have HPM:=qa (bL (nX rows) (d.cls.take k));have HPY:Hid (nX rows kap∈eH ((d.cls.take k).map (nX rows))->aG (nX rows) (d.cls.take (k+1))=aG (nX rows) (d.cls.take k)):=qa (fun h=>by rw[HT.o,b6,qw];rwa [bL]);have HPN:Hid (nX rows kap∉eH ((d.cls.take k).map (nX rows))->aG (nX rows) (d.cls.take (k+1))=aG (nX rows) (d.cls.take k)++[kap]):=qa (fun h=>by rw[HT.o,b6,qv];rwa [bL]);have HPL:Hid ((aG (nX rows) (d.cls.take k)).length<=256):=qa (by have:=iW (nX rows) (d.cls.take k);simp at this;omega);have HUS:Hid (eH ((d.cls.take (k+1)).map (nX rows))=aQ (eH ((d.cls.take k).map (nX rows))) (nX rows kap)):=qa (by rw[HTM.o,fI]);clear HTM;have qlG:w.heap.size+4<=wr.heap.size:=by have:=HMX.o.lt;omega
    generalize hL:aG (nX rows) (d.cls.take k)=L at*;clear hL;obtain⟨ol,cl0,gl,hvl,-⟩:=HOX.o.cases;subst hvl;rw[aS]at HOX⊢;generalize eH ((d.cls.take k).map (nX rows))=ks at*;generalize nX rows kap=tx at*;have HKL:Hid (ks.length=L.length):=qa (by rw[<-HPM.o,qB])
    have hkey:keyOf prog 9 (.string ⟨tx.toArray⟩)=some (.string tx):=by
     have:=Go.WideMaps.keyOf_string_mk (P:=prog) (k:=9) underlying9 (s:=⟨tx.toArray⟩) (by have:=HTL.o;show tx.toArray.size<=_;simp[maxLen];omega);simpa using this
    have HKEY:=qa hkey;clear hkey;obtain⟨D,hD,hM⟩:=HMX.o;rw[HKL.o]at hD;have HM:=qa hM;clear hM;have HDM:=qa hD;clear hD;have hcn:wr.cell? ⟨w.heap.size+1+1,k,none⟩=some (.int .i64 (cl.getD k 0)):=qeF.o.cell hlt;have hfn:wr.frozen? ⟨w.heap.size+1+1,k,none⟩=false:=qeF.o.free k;clear HMX HMP HOB;generalize hy0:cl.getD k 0=y0 at hcn;clear hy0;by_cases qcx:tx∈ks
    ·have qdb:Hid (Maps.has D (.string tx)=true):=qa (by rw[HM.o.2.2.1 tx];simpa using qcx)
     have qcG:=qa qcx;clear qcx
     go_wp2_with(first|(at_lookup;refine wpList_lookup_own_ok_int _ rfl _ _ 65 rfl 9 3 .i64 d9 underlying65 underlying3 (dW _) (w.heap.size+3) _ D rfl HDM.o _ _ rfl HKEY.o ?_;intro c hat hwc;rw[qdb.o];clear hat hwc)|(at_lookup;refine wpList_lookup_own_int _ rfl _ _ 65 rfl 9 3 .i64 d9 underlying65 underlying3 (dW _) (w.heap.size+3) _ D rfl HDM.o _ _ rfl HKEY.o ?_;intro c hat hwc;have hce:=HM.o.at_eq qcG.o hat;subst hce;clear hat hwc))
     go_roundg (257-(k+1))
     case measure=>omega
     case rel=>
      obtain⟨hbs,hgs⟩:=qeF.o.set k (idx ks tx:Nat);refine⟨k+1,cl.set k (idx ks tx:Nat),by omega,by go_num,?_,hbs,?_,qa (fun a ha=>?_),HWX.o.setCell (qb _) _,rfl⟩
      ·rw[HPY.o qcG.o]
       exact HOX.o.keep hgs (HOX.o.off (by omega))
      ·rw[HUS.o,aQ,qw qcG.o]
       exact eS.keep ⟨D,by rw[HKL.o];exact HDM.o,HM.o⟩ hgs (by simp)
      rw[pK];rcases Nat.lt_succ_iff_lt_or_eq.1 ha with h1|rfl
      ·rw[qv (by omega)];exact HCL.o a h1
      rw[qw ⟨rfl,by rw[qeF.o.len];exact hlt⟩,qj1.o,HPV.o,HUS.o,aQ,qw qcG.o]
    have qdb:Hid (Maps.has D (.string tx)=false):=qa (by rw[HM.o.2.2.1 tx];simpa using qcx);have qcG:=qa qcx;clear qcx;have hms:=HM.o.snoc q0q qcG.o;rw[HKL.o]at hms;have HMS:=qa hms;clear hms;have HIX:Hid (idx (ks++[tx]) tx=L.length):=qa (by rw[cV qcG.o,HKL.o]);clear hcn hfn
    go_wp2_with(first|(at_lookup;refine wpList_lookup_own_ok_int _ rfl _ _ 65 rfl 9 3 .i64 d9 underlying65 underlying3 (dW _) (w.heap.size+3) _ D rfl HDM.o _ _ rfl HKEY.o ?_;intro c hat hwc;rw[qdb.o];clear hat hwc)|(at_mapUpdate;go_loud (refine wpList_mapUpdate_own _ rfl _ _ _ 65 rfl 9 3 d9 underlying65 _ (w.heap.size+3) _ D rfl HDM.o (by have:=HPL.o;unfold maxLen;omega) _ _ _ rfl rfl HKEY.o _ [] (plainElem_int underlying3 (qa3 _ (by have:=HPL.o;omega))) ?_;intro w1 hown1 hg1;have HD1:=qa hown1;have HG1:=qa hg1;have hs1:=hg1.size;have HO1:=qa (HOX.o.keep hg1 (HOX.o.off (by omega)));clear hown1 hg1))|(at_builtin;go_loud (refine bF rfl (.tmp 59) (.tmp 61) 27 rfl (w.heap.size+4) 3 (.int .i64 0) 8 underlying27 (by kernel_rfl) rfl (by decide) (.slice ol L.length cl0) (ints L) rfl (HO1.o.up (aD _ _)) (.slice (some ⟨w1.heap.size,0,none⟩) 1 1) (ints [kap]) rfl (eK w1 #[.int .i64 kap] 3 (by simp)) (iC _) (by have:=HPL.o;simp;omega) (by simp;omega) ?_;intro v' w2 hown2 hg2 hk2;have HO2:=qa hown2;have HG2:=qa (aL (aK (aD w1 (.cells #[.int .i64 kap] 3)) _) hg2);have HD2:=qa (HD1.o.kept HG2.o (HO1.o.ne_of (by omega)));have HX2:=qa ((qeF.o.keep HG1.o (by simp)).keep HG2.o (fun e=>HO1.o.ne_of (by omega) e.symm));have qmm:=HX2.o.cell hlt;have qmb:=HX2.o.free k;clear hown2 hg2 hk2))|(at_lookup;refine wpList_lookup_own_int _ rfl _ _ 65 rfl 9 3 .i64 d9 underlying65 underlying3 (dW _) (w.heap.size+3) _ _ rfl HD2.o _ _ rfl HKEY.o ?_;intro c hat hwc;have hce:=(HMS.o.at_eq (k:=tx) (by simp) hat).trans (j0 Int.ofNat HIX.o);subst hce;clear hat hwc))
    go_roundg (257-(k+1))
    case measure=>omega
    case rel=>
     obtain⟨hbs,hgs⟩:=HX2.o.set k (L.length:Nat);refine⟨k+1,cl.set k (L.length:Nat),by omega,by go_num,?_,hbs,?_,qa (fun a ha=>?_),((HWX.o.grown HG1.o (by omega) (fun j hj=>by cases hj;omega)).grown HG2.o (by omega) (fun j hj=>by have:=(HO1.o.lt j hj).1;omega)).setCell (qb _) _,rfl⟩
     ·rw[HPN.o qcG.o,lJ]
      exact HO2.o.keep hgs (HO2.o.off (by omega))
     ·rw[HUS.o,aQ,qv qcG.o]
      exact eS.keep ⟨_,by rw[qj,qE,HKL.o];exact HD2.o,HMS.o⟩ hgs (by simp)
     rw[pK];rcases Nat.lt_succ_iff_lt_or_eq.1 ha with h1|rfl
     ·rw[qv (by omega)];exact HCL.o a h1
     rw[qw ⟨rfl,by rw[qeF.o.len];exact hlt⟩,qj1.o,HPV.o,HUS.o,aQ,qv qcG.o,HIX.o]
  have hk6:k=256:=by omega
  subst hk6;have hct:d.cls.take 256=d.cls:=qG (by rw[HL.o];exact qb _);rw[hct]at HO
  have HCE:Hid (cl=q0Z rows d.cls):=qa (q2Y (by rw[HBX.o.len];simp[q0Z,HL.o]) (fun i hi=>by
   have hi':i<d.cls.length:=by rw[HL.o,<-HBX.o.len];exact hi
   have hm:d.cls.getD i 0∈d.cls:=cE _ _ _ hi';rw[HCL.o i (by rw[<-HBX.o.len];exact hi),<-HPC.o.2 _ hm,q0Z,tK];simp[List.getD,hi']))
  clear hct HCL HMP;obtain⟨C1,hC1,qiz,qiA⟩:=HBX.o.open;have HC1:=qa hC1;clear hC1;have qge:=qa qiz;clear qiz;have HR1:=qa (HR4.o.upB (by simp) HW.o)
  have HQ:Hid (∀w',(∃x,w'=chg wr (some (w.heap.size+1)) x)->w'.heap[w.heap.size+2]? =some (.cells C1 25 (0,0))):=qa (by
   rintro w' ⟨x,rfl⟩;rw[(uA wr x _).block (w.heap.size+2) HBX.o.lt (by simp)];exact HC1.o)
  have hrl:=HR1.o.lt;go_wp2;refine oT (some (w.heap.size+1)) [0,2,1] [3] (by kernel_rfl) (by kernel_rfl) ?_;simp only[pk]
  repeat(first|(go_big_quiet_want;refine J6 _ rfl (w.heap.size+2) rfl C1 qge.o HQ.o ?_;go_simp;go_big_quiet_on)|go_big_quiet_step (fail))
  refine wpQuiet_nil ?_;unfold aF
  go_wp2_with(refine bK rfl 25 _ _ rfl (w.heap.size+1) 25 (w.heap.size+1) 256 256 rfl C1 rfl (by rw[qge.o];kernel_rfl) (ints (List.replicate 256 0)) (HR1.o.own.up (gQ (qn _ _))) (by rw[qge.o,aS,qP];exact qb _) (by rw[qiA];exact iC _) ?_;intro w2 hown2 hg2;have HO2:=qa hown2;have HG2:=qa hg2;clear hown2 hg2)
  refine⟨dD (aL (eW _ _) HG2.o),?_⟩;unfold aF;intro _ _;go_wp2;have hg2:wr.grownBy w2 (some (w.heap.size+1)):=aL (eW _ _) HG2.o
  have hbc:wI w2 (w.heap.size+1) cl:=⟨by
   have h:=HO2.o;rw[qge.o,jp (by rw[aS,qP];exact qb _),j7,qiA]at h;exact h,HBX.o.len⟩
  obtain⟨C2,hC2,qiy,qkI⟩:=hbc.open;have hl2:=dA (P:=prog) w2 (w.heap.size+1) 0 256 25 25 C2 (0,0) _ hC2 underlying25 rfl (by kernel_rfl) (by rw[qiy];decide);have e2:C2.extract 0 (0+256)=C2:=by rw[qI,<-qiy];simp
  rw[e2]at hl2;refine xN rfl rfl rfl rfl hl2 ⟨u6,C2,rfl,?_,?_,?_⟩
  ·have h:=(HO.o.keep hg2 (HO.o.off (by omega))).mono (show w.heap.size<=w.heap.size+4 by omega)
   rw[<-HPC.o.1]at h;exact h
  ·rw[qkI,HCE.o]
  have hb0:Below w.heap.size w ((w.alloc (.cells A 29)).alloc (.cells Z 25)):=aO;exact(hb0.trans (HW.o.mono (by omega))).grown hg2 (by omega) (fun j hj=>by cases hj;omega)
end Go.Cm
namespace Go.Cm
open Go.RowKit Go.Proofs
def qa0(d:Dfa)(w:World)(e:Ending)(w':World):Prop:=∃v,e=.returned (.tuple #[v,.int .i64 (q3O d)])/\mX w' v (q3N d)/\Below w.heap.size w w'
theorem q1I(w:World)(o o':Obj)(x:World):w.heap.size<(ext ((w.alloc o).alloc o') x).heap.size:=qe (by simp;omega) (iP _ x)
theorem q8P(w:World)(o o':Obj):w.heap.size<((w.alloc o).alloc o').heap.size:=by simp;omega
theorem q1J(w:World)(o o':Obj)(x:World):w.heap.size<=(ext ((w.alloc o).alloc o') x).heap.size:=jq (q1I w o o' x)
theorem Own.ne_lt{w:World}{B E k:Nat}{v:Value}{xs:List Value}(h:Own w B E v xs)(hk:k<B):v.ownBlock=none\/v.ownBlock≠some k:=by
 cases hu:v.ownBlock with
 |none=>exact .inl rfl
 |some q=>exact .inr (fun e=>by have:=h.lt q hu;injection e with e;omega)
section
variable {w : World} {B E E' : Nat} {v v' u u' r : Value} {vs : List Value} {ll : List (List Value)}
theorem eG.free_step(h:eG w B E E' v vs ll)(hf:eG.free v vs u.ownBlock)(hk:∀k,u'.ownBlock=some k->u.ownBlock=some k\/w.heap.size<=k):eG.free v vs u'.ownBlock:=by
 cases hu:u'.ownBlock with
 |none=>exact eG.free_none
 |some k=>
  rcases hk k hu with h1|h1
  ·rw[<-h1];exact hf
  exact h.free_new h1
theorem eG.free_push{xs:List Value}(hf:eG.free v vs u.ownBlock)(hu:Own w B E u xs)(hr:∀k,r.ownBlock=some k->u.ownBlock≠some k)(hk:∀k,v'.ownBlock=some k->v.ownBlock=some k\/w.heap.size<=k):eG.free v' (vs++[r]) u.ownBlock:=by
 refine⟨fun k h e=>?_,fun i hi k h e=>?_⟩
 ·rcases hk k h with h1|h1
  ·exact hf.1 k h1 e
  have:=hu.lt k e;omega
 rw[qj,qE]at hi;rcases Nat.lt_succ_iff_lt_or_eq.1 hi with h1|rfl
 ·rw[bC h1]at h;exact hf.2 i h1 k h e
 rw[cJ]at h;exact hr k h e
end
theorem O7{w w1 w2:World}{r row:Option Nat}(h:w.grownBy w1 r)(h':w1.grownBy w2 row)(hk:∀k,row=some k->w.heap.size<=k):w.grownBy w2 r:=
 ⟨h'.os.trans h.os,h'.tape.trans h.tape,h'.output.trans h.output,qc h.size h'.size,fun k hk1 hne=>(h'.block k (qe hk1 h.size) (fun e=>by have:=hk k e.symm;omega)).trans (h.block k hk1 hne)⟩
end Go.Cm
namespace Go.Cm
open Go.RowKit Go.Proofs Go.Maps
theorem P8{d:Dfa}{f k n:Nat}(hf:f∈fX d k)(hk:k<=n):idx (fX d n) f=idx (fX d k) f:=by
 obtain⟨l,hl⟩:=G0 d k (n-k);rw[show k+(n-k)=n by omega]at hl;rw[hl,cD hf]
theorem wD{d:Dfa}{f k n:Nat}(hf:f∈fX d k)(hk:k<=n):f∈fX d n:=by
 have:=eN.1 hf;exact eN.2 ⟨by omega,this.2⟩
theorem O4.eq{d:Dfa}{part:List Int}(h:O4 d part){i j:Nat}(hi:i<d.next.length)(hj:j<d.next.length):part.getD i 0=part.getD j 0↔Eqv d i j:=by
 obtain⟨f,hf,he,hp⟩:=h.2 i hi;obtain⟨g,hg,he',hp'⟩:=h.2 j hj;rw[hp,hp',<-P8 (n:=d.next.length) hf hi,<-P8 (n:=d.next.length) hg hj]
 constructor
 ·intro hq
  have:=C3 (wD hf hi) (wD hg hj) (by omega);subst this;exact he.trans he'.symm
 intro hq;have:=rT hf hg (he.symm.trans (hq.trans he'));rw[this]
theorem O4.range{d:Dfa}{part:List Int}(h:O4 d part){i:Nat}(hi:i<d.next.length):∃q:Nat,part.getD i 0=q/\q<d.next.length:=by
 obtain⟨f,hf,he,hp⟩:=h.2 i hi;have h1:=eJ hf;have h2:=q3M d (i+1);exact⟨_,hp,by omega⟩
theorem q6F{q:Nat}(h:q<=4294967296):keyOf prog 3 (.int .i64 (q:Int))=some (.int .i64 (q:Int)):=keyOf_int_mk underlying3 (qa3 q h)
theorem wE:Keyed prog 3:=int_keyed underlying3
theorem q1M{w:World}{g i:Nat}{o:Obj}(hg:w.heap[g]? =some o)(hn:∀c t f,o≠.cells c t f):w.cell? ⟨g,i,none⟩=none:=by
 unfold World.cell?;rw[hg];cases o<;>first|rfl|exact absurd rfl (hn _ _ _)
theorem q6G{ops:Array Oper}{rest:List Oper}{o:Oper}{a:Act}{w:World}{Q:Exit->Act->World->Prop}(hgd:o.guard=none)(x y:Operand)(ho:o.op=.store 25 x y)
  (g:Nat) (hx:a.eval x=.pointer (some ⟨g,0,none⟩)) (C:Array Value) (hy:a.eval y=.agg C) {cl cl':List Int} (hC:C.toList=ints cl') (hl:cl'.length=256) (hB:wI w g cl)
  (h:∀w',wI w' g cl'->w.grownBy w' (some g)->wpList prog ops Q rest (a.put o.dst undef) w'):wpList prog ops Q (o::rest) a w:=by
 have hs:C.size=256:=by rw[<-qR,hC,aS,hl]
 have qdh:(ints cl).length=256:=by rw[aS,hB.len]
 refine bK hgd 25 x y ho g 25 g 256 256 hx C hy (by rw[hs];kernel_rfl) (ints cl) hB.own (by rw[hs,qdh];exact qb _) (by rw[hC];exact iC _) fun w' hw hg=>h w' ⟨?_,hl⟩ hg;rw[hs,jp (by rw[qdh];exact qb _),j7,hC]at hw;exact hw
theorem q6H{ops:Array Oper}{rest:List Oper}{o:Oper}{a:Act}{w:World}{Q:Exit->Act->World->Prop}(hgd:o.guard=none)(x y:Operand)(ho:o.op=.store 25 x y)
  (g:Nat) (hx:a.eval x=.pointer (some ⟨g,0,none⟩)) (C:Array Value) (hy:a.eval y=.agg C) {nv rv:Value} {cl cl':List Int} (hC:C.toList=ints cl') (hl:cl'.length=256) (hB:mY w g nv rv cl)
  (h:∀w',mY w' g nv rv cl'->w.grownBy w' (some g)->wpList prog ops Q rest (a.put o.dst undef) w'):wpList prog ops Q (o::rest) a w:=by
 have hs:C.size=256:=by rw[<-qR,hC,aS,hl]
 have qdh:(ints cl).length=256:=by rw[aS,hB.len]
 refine bK hgd 25 x y ho g 29 g 258 258 hx C hy (by rw[hs];kernel_rfl) (ints cl++[nv,rv]) hB.own (by rw[hs,qj,qdh];exact Nat.le_add_right _ _) (by rw[hC];exact iC _) fun w' hw hg=>h w' ⟨?_,hl⟩ hg;rw[hs,List.drop_append_of_le_length (by rw[qdh];exact qb _),jp (by rw[qdh];exact qb _),List.nil_append,hC]at hw;exact hw
theorem q1N{d:Dfa}(hv:bD d){j:Nat}(hj:j<(cK d).length)(i:Nat):0<=((cK d).getD j []).getD i 0/\((cK d).getD j []).getD i 0<65536:=by
 rw[kE]at hj;have h1:=G9 hv;have h2:=hv.2.1;by_cases hi:i<kN_MiniE d
 ·rw[kF hv hj hi]
  have:=I2 hv hj hi;omega
 have hl:((cK d).getD j []).length<=i:=by
  rw[xP d hj,lS,qB,bW hv (fU hv (pO hj))];omega
 rw[qu,qQ hl];simp
def q43(w:World)(B:Nat)(A:Array Value)(d:Dfa):Prop:=∃nv vs rv Bn Br,A.toList=ints d.cls++[nv,rv]/\d.cls.length=256/\B<=Bn/\B<=Br/\eG w Bn 27 3 nv vs (d.next.map ints)/\Own w Br 3 rv (ints d.rules)
theorem q43.val{w:World}{B:Nat}{A:Array Value}{d:Dfa}(h:q43 w B A d):q1z w A d:=by
 obtain⟨nv,vs,rv,Bn,Br,h1,h2,-,-,h5,h6⟩:=h;exact q63 h1 h2 h5.rowsG.ints h6.sl
theorem q43.up{w w':World}{B:Nat}{A:Array Value}{d:Dfa}(h:q43 w B A d)(hb:Below w.heap.size w w'):q43 w' B A d:=by
 obtain⟨nv,vs,rv,Bn,Br,h1,h2,h3,h4,h5,h6⟩:=h;exact⟨nv,vs,rv,Bn,Br,h1,h2,h3,h4,h5.up hb,h6.up hb⟩
theorem q43.keep{w w':World}{B g:Nat}{A:Array Value}{d:Dfa}(h:q43 w B A d)(hg:w.grownBy w' (some g))(hl:g<B):q43 w' B A d:=by
 obtain⟨nv,vs,rv,Bn,Br,h1,h2,h3,h4,h5,h6⟩:=h;exact⟨nv,vs,rv,Bn,Br,h1,h2,h3,h4,h5.keep' hg (h5.free_below (by omega)),h6.keep hg (h6.ne_lt (by omega))⟩
theorem q43.mono{w:World}{B B':Nat}{A:Array Value}{d:Dfa}(h:q43 w B A d)(hB:B'<=B):q43 w B' A d:=by
 obtain⟨nv,vs,rv,Bn,Br,h1,h2,h3,h4,h5,h6⟩:=h;exact⟨nv,vs,rv,Bn,Br,h1,h2,by omega,by omega,h5,h6⟩
def q8e(d:Dfa)(w:World)(e:Ending)(w':World):Prop:=∃A,e=.returned (.tuple #[.agg A,.int .i64 (q3O d)])/\q43 w' w.heap.size A (q3N d)/\Below w.heap.size w w'
theorem q32{fn:Func}{tmps:Array Value}{w:World}{ds:List Deferred}{s b g:Nat}{nv rv y:Value}{cl:List Int}{R:Ending->World->Prop}(hf:fn.results=#[.cell s 29,.tmp b])(ha:tmps.getD s undef=.pointer (some ⟨g,0,none⟩))(hb:tmps.getD b undef=y)(hd:ds=[])
  (hB:mY w g nv rv cl) (h:∀A,A.toList=ints cl++[nv,rv]->R (.returned (.tuple #[.agg A,y])) w):bodyPost prog fn R .ret ⟨tmps,ds⟩ w:=by
 obtain⟨A,hg,hs,hA⟩:=hB.open;have hl:=dA (P:=prog) w g 0 258 29 29 A (0,0) _ hg underlying29 rfl (by kernel_rfl) (by rw[hs];decide);have e:A.extract 0 (0+258)=A:=by rw[qI,<-hs];simp
 rw[e]at hl;refine bodyPost_ret (v:=.tuple #[.agg A,y]) ?_ hd (h _ hA);rw[lZ hf ha hl,hb]
theorem qbN(v:Value)(d:Dfa)(w:World)(h:mX w v d):Calls prog 9 #[v] w (q8e d w):=by
 have hL:=fun w' (hb:Below w.heap.size w w')=>F1 v d w' (h.up hb);have hAp:=fun w' (hb:Below w.heap.size w w') hv=>parts v d w' (h.up hb) hv;have hRe:=fun w' (hb:Below w.heap.size w w')=>q7O v d w' (h.up hb);have hCo:=fun w' (hb:Below w.heap.size w w') (u:Value) (rows:List (List Int)) hu hk hx hn=>q8b v u d rows w' (h.up hb) hu hk hx hn;obtain⟨A,rfl,hs,hl,hc,⟨vn,hn,hrw⟩,⟨vr,hr,hru⟩⟩:=h;obtain⟨oa,cap,b,off,rfl,hd,hro⟩:=hrw.open;obtain⟨oq,capq,bq,offq,rfl,hdq,hrq⟩:=hru.open;have HAP:=qa hAp;clear hAp;have HRE:=qa hRe;clear hRe;have HCO:=qa hCo;clear hCo;have HRO:=qa hro;clear hro;have HRQ:=qa hrq;clear hrq;have HD:=qa hd;clear hd;have HDQ:=qa hdq;clear hdq;have HLC:=qa hl;have HN:=qa hn;have HR:=qa hr;have HL:=qa hL;clear hL;have HS:=qa hs;clear hs hc hl hn hr hrw hru;have HG:=qa (heap_alloc_new w (.cells A 29));have hz:=vS;have hbd:=F2;have hmm:=@run_makeMap prog;obtain⟨Z,hZ⟩:∃Z,Z=X7:=⟨_,rfl⟩;rw[<-hZ]at hz hbd;have HZ:=qa hZ;clear hZ
 have HB2:Hid (mY ((w.alloc (.cells A 29)).alloc (.cells Z 29)) (w.heap.size+1) (.slice none 0 0) (.slice none 0 0) (List.replicate 256 0)):=qa (by
  have:=tR (w.alloc (.cells A 29));rw[<-HZ.o]at this;simpa using this)
 have HG2:Hid (((w.alloc (.cells A 29)).alloc (.cells Z 29)).heap[w.heap.size]? =some (.cells A 29 (0,0))):=qa (by rw[(aD _ _).block _ (by simp)];exact HG.o);by_cases hv:bD d
 ·have hrb:=lE hv
  have HI:=qa (G7 hv);have HE:=qa (G8 hv);have HRI:=qa (N8 hv);have hn1:=hv.1;have hn2:=hv.2.1;have HRB:=qa (eT hv).2.1;have qjO:=q0H hv;have HV:=qa hv;clear hv;go_enter func9,ntmps9
  go_wp2_with(first|(refine dI rfl _ rfl w.heap.size rfl A HS.o HG2.o ?_)|(refine dI rfl _ rfl w.heap.size rfl A HS.o ((yQ _ _ _ (q8P w _ _)).trans HG2.o) ?_)|(refine dI rfl _ rfl w.heap.size rfl A HS.o HG3.o ?_)|(go_at_call 31;refine(HL.o _ aO).mono ?_;rintro e w' ⟨rfl,x,rfl⟩;rw[hrb])|(go_at_call 32;refine(HAP.o _ aO HV.o).mono ?_;rintro e w1 ⟨va,part,rfl,hva,hok,hb1⟩;have HB1:=qa hb1;have HVA:=qa hva;have HOK:=qa hok;have HG3:Hid ((w1.alloc (.map #[] 0)).heap[w.heap.size]? =some (.cells A 29 (0,0))):=qa (((aD w1 (.map #[] 0)).block w.heap.size (qe (q1I w _ _ x) hb1.size)).trans ((hb1.block w.heap.size (q1I w _ _ x)).trans ((yQ _ _ _ (q8P w _ _)).trans HG2.o)));clear hb1 hva hok)|(go_at_call 33;refine(HRE.o _ (((gK (Q0 (aD w _) _) x).trans (HB1.o.mono (q1J w _ _ x))).alloc (qc (q1J w _ _ x) HB1.o.size) _)).mono ?_;rintro e w2 ⟨vl,rfl,hir,hb2⟩;have HBL:=qa hb2;rw[HRI.o]at hir;obtain⟨or,capr,br,offr,rfl,hdr,hrr⟩:=hir.open;rw[lS]at hdr hrr⊢;have HDR:=qa hdr;have HRR:=qa hrr;clear hb2 hir hdr hrr))
  have hw1:Below w.heap.size w w1:=(gK (Q0 (aD w _) _) x).trans (HB1.o.mono (q1J w _ _ x));have qlB:w.heap.size+2<=w1.heap.size:=qc (iP ((w.alloc (.cells A 29)).alloc (.cells Z 29)) x |> fun h=>by simpa using h) HB1.o.size;have qlL:w1.heap.size<w2.heap.size:=by have:=HBL.o.size;simp at this;omega
  have qgf:Hid (Below w1.heap.size w1 w2):=qa ((aD w1 (.map #[] 0)).trans (HBL.o.mono (by simp)));have hw:Below w.heap.size w w2:=hw1.trans (qgf.o.mono (by omega));have HW:=qa hw;clear hw;have HG4:Hid (w2.heap[w.heap.size]? =some (.cells A 29 (0,0))):=qa ((HBL.o.block w.heap.size (by simp;omega)).trans HG3.o);have qkY:Hid (mY w2 (w.heap.size+1) (.slice none 0 0) (.slice none 0 0) (List.replicate 256 0)):=qa (((HB2.o.up (aE _ x)).up HB1.o).up qgf.o)
  have hbm:0<(reach d).length->br≠w1.heap.size:=fun h0 he=>by
   have h1:=HRR.o 0 h0;subst he;rw[q1M (o:=.map #[] 0) ((HBL.o.block w1.heap.size (by simp)).trans (MapKept.heap_alloc w1 _).1) (fun _ _ _ h=>by cases h)]at h1;cases h1
  obtain⟨ot,ct,bt,ft,rfl,hdt,hrt⟩:=HVA.o.open;have hml:part.length=d.next.length:=HOK.o.1;rw[hml]at hdt hrt⊢;have qgC:=aT (P:=prog) 27 3 underlying27 (by kernel_rfl) hdt;have HDT:=qa hdt;have HRT:=qa hrt;clear hdt hrt hml;have HMP:Hid (eS prog 3 3 (fun n:Int=>Lit.int .i64 n) w2 w1.heap.size []):=qa ((eS.made (P:=prog) (K:=3) (E:=3) w1 (fun n:Int=>Lit.int .i64 n)).up HBL.o);clear HB2 HVA HG3 hmm HG;have hbt:=HDT.o.hblk (by omega);have qdW:=aT (P:=prog) 27 3 underlying27 (by kernel_rfl) HDR.o;generalize hR:reach d=R at*;obtain⟨pf,hpf⟩:∃pf:Nat->Int,∀s,pf s=part.getD s 0:=⟨fun s=>part.getD s 0,fun _=>rfl⟩;have HPR:Hid (∀s,s∈R->∃q:Nat,pf s=q/\q<d.next.length):=qa (fun s hs=>by rw[hpf];exact HOK.o.range (HRB.o s hs));have HPC:Hid (∀a∈R,∀b∈R,pf a=pf b↔cM d a=cM d b):=qa (fun a ha b hb=>by rw[hpf,hpf,xM];exact HOK.o.eq (HRB.o a ha) (HRB.o b hb));have HPF:Hid (∀s,s∈R->w1.cell? ⟨bt,ft+s,none⟩=some (.int .i64 (pf s))):=qa (fun s hs=>by rw[hpf];exact HRT.o s (HRB.o s hs));clear hpf HRT HOK
  go_loopg [6,35] (R.length+1) (fun gk vf i wr=>∃k:Nat,k<=R.length/\i=.int .i64 k/\Own wr w2.heap.size 3 vf (ints (nl (aG pf (R.take k))))/\eS prog 3 3 (fun n:Int=>Lit.int .i64 n) wr w1.heap.size (eH ((R.take k).map pf))/\w2.grownBy wr (some w1.heap.size)/\gk=R.length+1-k)
  case atStart=>exact⟨0,qd _,rfl,Own.nil _ _ _,HMP.o,dL _ _,rfl⟩
  case round=>
   clear HMP;obtain⟨k,hk,rfl,how,hmap,hgr,rfl⟩:=hrel;have hsz:w2.heap.size<=wr.heap.size:=hgr.size;have HGR:=qa hgr;clear hgr;have HF:=qa how;clear how;have HMP:=qa hmap;clear hmap;by_cases hlt:k<R.length
   ·have hsR:R.getD k 0∈R:=cE R k 0 hlt
    have hsn:=HRB.o _ hsR;have hck:=HRR.o k hlt;rw[tK]at hck;have hbr:=HDR.o.hblk (by omega);have HTM:Hid ((R.take (k+1)).map pf=(R.take k).map pf++[pf (R.getD k 0)]):=qa (by rw[dE hlt rfl,qH];rfl);have HPM:=qa (bL pf (R.take k));have HPY:Hid (pf (R.getD k 0)∈eH ((R.take k).map pf)->aG pf (R.take (k+1))=aG pf (R.take k)):=qa (fun h=>by rw[dE hlt rfl,b6,qw];rwa [bL]);have HPN:Hid (pf (R.getD k 0)∉eH ((R.take k).map pf)->aG pf (R.take (k+1))=aG pf (R.take k)++[R.getD k 0]):=qa (fun h=>by rw[dE hlt rfl,b6,qv];rwa [bL]);have HPL:Hid ((aG pf (R.take k)).length<=1000):=qa (by have:=iW pf (R.take k);simp at this;omega);have HUS:Hid (eH ((R.take (k+1)).map pf)=aQ (eH ((R.take k).map pf)) (pf (R.getD k 0))):=qa (by rw[HTM.o,fI]);have hcp:=(HGR.o.block bt (by omega) (fun e=>by injection e with e;omega));have hw1:wr.cell? ⟨br,offr+k,none⟩=some (.int .i64 ((R.getD k 0:Nat):Int)):=(World.cell?_of_block (HGR.o.block br hbr (fun e=>by injection e with e;exact hbm (by omega) e))).trans hck;have hw2:wr.cell? ⟨bt,ft+R.getD k 0,none⟩=some (.int .i64 (pf (R.getD k 0))):=(World.cell?_of_block hcp).trans ((qgf.o.cell (p:=⟨bt,ft+R.getD k 0,none⟩) hbt).trans (HPF.o _ hsR));obtain⟨q,hq,hqn⟩:=HPR.o _ hsR;clear hck hcp;have hs1:br<wr.heap.size:=by omega
    have hs2:bt<wr.heap.size:=by omega
    generalize hF:aG pf (R.take k)=F at*;generalize eH ((R.take k).map pf)=ks at*;generalize hs:R.getD k 0=s at*;obtain⟨ofi,cfi,gfi,hvf,-⟩:=HF.o.cases;subst hvf;rw[aS,lS]at HF⊢;have HKL:Hid (ks.length=F.length):=qa (by rw[<-HPM.o,qB]);obtain⟨D,hD,hM⟩:=HMP.o;rw[HKL.o]at hD;have HM:=qa hM;clear hM;have HDM:=qa hD;clear hD;clear HMP;have HSR:=qa hsR;clear hsR;have HS':=qa hs;clear hs;rw[hq]at HPY HPN HUS hw2;have HKEY:=qa (q6F (q:=q) (by omega));clear HPM;by_cases qcx:(q:Int)∈ks
    ·have qdb:Hid (Maps.has D (.int .i64 (q:Int))=true):=qa (by rw[HM.o.2.2.1 (q:Int)];simpa using qcx)
     have qcG:=qa qcx;clear qcx
     go_wp2_with(at_lookup;refine wpList_lookup_own_ok_int _ rfl _ _ 92 rfl 3 3 .i64 wE underlying92 underlying3 (dW _) w1.heap.size _ D rfl HDM.o _ _ rfl HKEY.o ?_;intro c hat hwc;rw[qdb.o];clear hat hwc)
     go_roundg (R.length+1-(k+1))
     case measure=>omega
     case rel=>
      refine⟨k+1,by omega,by go_num,?_,?_,HGR.o,rfl⟩
      ·rw[HPY.o qcG.o];exact HF.o
      rw[HUS.o,aQ,qw qcG.o];exact⟨D,by rw[HKL.o];exact HDM.o,HM.o⟩
    have qdb:Hid (Maps.has D (.int .i64 (q:Int))=false):=qa (by rw[HM.o.2.2.1 (q:Int)];simpa using qcx);have qcG:=qa qcx;clear qcx;have hms:=HM.o.snoc qaH qcG.o;rw[HKL.o]at hms;have HMS:=qa hms;clear hms;have HLN:Hid ((ints (nl F)).length+(ints (nl [s])).length<=4294967296):=qa (by have:=HPL.o;simp;omega)
    go_wp2_with(first|(at_lookup;refine wpList_lookup_own_ok_int _ rfl _ _ 92 rfl 3 3 .i64 wE underlying92 underlying3 (dW _) w1.heap.size _ D rfl HDM.o _ _ rfl HKEY.o ?_;intro c hat hwc;rw[qdb.o];clear hat hwc)|(at_mapUpdate;go_loud (refine wpList_mapUpdate_own _ rfl _ _ _ 92 rfl 3 3 wE underlying92 _ w1.heap.size _ D rfl HDM.o (by have:=HPL.o;unfold maxLen;omega) _ _ _ rfl rfl HKEY.o _ [] (plainElem_int underlying3 (qa3 _ (by have:=HPL.o;omega))) ?_;intro w3 hown1 hg1;have HD1:=qa hown1;have HG1:=qa hg1;have hs3:=hg1.size;have HO1:=qa (HF.o.keep hg1 (HF.o.off (by omega)));clear hown1 hg1))|(at_builtin;go_loud (refine bF rfl (.tmp 57) (.tmp 59) 27 rfl w2.heap.size 3 (.int .i64 0) 8 underlying27 (by kernel_rfl) rfl (by decide) (.slice ofi F.length cfi) (ints (nl F)) rfl (HO1.o.up (aD _ _)) (.slice (some ⟨w3.heap.size,0,none⟩) 1 1) (ints (nl [s])) rfl (by simpa[ints,nl]using eK w3 #[.int .i64 (s:Int)] 3 (by simp)) (iC _) HLN.o (qc hsz (qc hs3 (by simp))) ?_;intro v' w4 hown2 hg2 hk2;have HO2:=qa hown2;have qj5:=qa (aL (aK (aD w3 (.cells #[.int .i64 (s:Int)] 3)) _) hg2);have HD2:=qa (HD1.o.kept qj5.o (HO1.o.ne_of (by omega)));clear hown2 hg2 hk2)))
    go_roundg (R.length+1-(k+1))
    case measure=>omega
    case rel=>
     refine⟨k+1,by omega,by go_num,?_,?_,?_,rfl⟩
     ·rw[HPN.o qcG.o,uV,lJ]
      exact HO2.o
     ·rw[HUS.o,aQ,qv qcG.o]
      exact⟨_,by rw[qj,qE,HKL.o];exact HD2.o,HMS.o⟩
     exact O7 (aL HGR.o HG1.o) qj5.o (fun j hj=>(HO1.o.lt j hj).1)
   have hkR:k=R.length:=by omega
   subst hkR;rw[j3]at HF HMP;obtain⟨w3,rfl⟩:∃w3:World,w3=wr:=⟨_,rfl⟩;have hpp:=f7 HPC.o;have hpk:aG pf R=heads d:=hpp.1.trans (by rw[<-hR];rfl)
   have HNV:Hid (∀s∈reach d,idx (eH (R.map pf)) (pf s)=num d s):=qa (fun s hs=>by
    rw[hR]at hs;rw[<-bL];have h2:=hpp.2 s hs;rw[<-hR]at h2⊢;exact h2)
   have HRM:Hid (∀s∈reach d,s∈R):=qa (fun s hs=>by rw[hR]at hs;exact hs);have HMK:Hid (∀s∈R,pf s∈eH (R.map pf)):=qa (fun s hs=>(dF _ _).2 (je hs));rw[hpk]at HF;have hfl:(heads d).length<=d.next.length:=G9 HV.o;have HFR:Hid (∀q,q<(heads d).length->(heads d).getD q 0∈reach d):=qa (fun q hq=>vZ (cE _ q 0 hq));have HRD:Hid (∀q,q<(heads d).length->(cK d).getD q []=nl ((rowN_MiniM d ((heads d).getD q 0)).map (num d))):=qa (fun q hq=>xP d hq);have HRL:Hid ((cK d).length=(heads d).length):=qa (kE d);have qmy:Hid (bX d=⟨q0Z (cK d) d.cls,tU (cK d) (G5 (cK d) d.cls),(heads d).map (gZ d)⟩):=qa rfl;clear hpp hpk;generalize eH (R.map pf)=ks at*;generalize hF:heads d=F at*;obtain⟨of,cf,gf,rfl,hdf,-,hcf,-⟩:=HF.o.cases;rw[aS,lS]at hdf hcf⊢;have HCF:=qa hcf;clear hcf;have HDF:=qa hdf;clear hdf;clear HF HDR HRR hbm qdW
   go_wp2_with(first|(refine fL rfl _ _ rfl w3.heap.size rfl Z rfl (HZ.o▸mT) qP rfl rfl (HZ.o▸tR _) ?_;intro w4 hb4 hg4;have HB4:=qa hb4;have HG5:=qa hg4;clear hb4 hg4))
   have qel:=qa (qkY.o.keep HGR.o (fun e=>by injection e with e;omega));have qip:Below w3.heap.size w3 w4:=(aD w3 (.cells Z 29)).grown HG5.o (by simp) (fun j hj=>by cases hj;exact qb _);have hw3:Below w.heap.size w w3:=HW.o.grown HGR.o (by omega) (fun j hj=>by cases hj;omega)
   have HX:Hid (∀W,Below w3.heap.size w3 W->W.cell? ⟨w.heap.size,256,none⟩=some (.slice oa d.next.length cap)/\W.cell? ⟨w.heap.size,257,none⟩=some (.slice oq d.rules.length capq)/\(∀q,q<F.length->W.cell? ⟨gf,q,none⟩=some (.int .i64 ((F.getD q 0:Nat):Int)))/\(∀s,s∈R->W.cell? ⟨bt,ft+s,none⟩=some (.int .i64 (pf s)))/\
     (∀f,f<d.next.length->∃oi ci bi fi,W.cell? ⟨b,off+f,none⟩=some (.slice oi (d.next.getD f []).length ci)/\Hd w oi (d.next.getD f []).length ci bi fi/\∀j,j<(d.next.getD f []).length->W.cell? ⟨bi,fi+j,none⟩=some (.int .i64 ((d.next.getD f []).getD j 0)))/\
     (∀i,i<d.rules.length->W.cell? ⟨bq,offq+i,none⟩=some (.int .i64 (d.rules.getD i 0)))):=qa (by
    intro W hW
    have h23:∀q i,q<w2.heap.size->q≠w1.heap.size->W.cell? ⟨q,i,none⟩=w2.cell? ⟨q,i,none⟩:=fun q i h1 h2=>by
     rw[hW.cell (p:=⟨q,i,none⟩) (show q<w3.heap.size by omega)];exact World.cell?_of_block (HGR.o.block q h1 (fun e=>by injection e with e;omega))
    have hA:∀i,W.cell? ⟨w.heap.size,i,none⟩=A[i]? :=fun i=>by
     rw[h23 _ _ (by omega) (by omega)];exact cell_of_row w2 w.heap.size i A 29 (0,0) HG4.o
    have hwW:∀q i,q<w.heap.size->W.cell? ⟨q,i,none⟩=w.cell? ⟨q,i,none⟩:=fun q i hq=>by
     rw[hW.cell (p:=⟨q,i,none⟩) (show q<w3.heap.size by omega),hw3.cell (p:=⟨q,i,none⟩) hq]
    refine⟨(hA 256).trans HN.o,(hA 257).trans HR.o,fun q hq=>?_,fun s hs=>?_,fun f hf=>?_,fun i hi=>?_⟩
    ·rw[hW.cell (p:=⟨gf,q,none⟩) (HDF.o.hblk (by omega)),HCF.o q hq,fF _ _ (by rw[lS];exact hq),tK]
    ·rw[h23 _ _ (by omega) (by omega),qgf.o.cell (p:=⟨bt,ft+s,none⟩) hbt];exact HPF.o s hs
    ·obtain⟨oi,ci,bi,fi,h1,h2,h3,-⟩:=HRO.o f hf
     exact⟨oi,ci,bi,fi,by rw[hwW _ _ (HD.o.hblk (by omega))];exact h1,h2,fun j hj=>by rw[hwW _ _ (h2.hblk (by omega))];exact h3 j hj⟩
    rw[hwW _ _ (HDQ.o.hblk (by omega))];exact HRQ.o i hi)
   have HXM:Hid (∀W,Below w3.heap.size w3 W->eS prog 3 3 (fun n:Int=>Lit.int .i64 n) W w1.heap.size ks):=qa (fun W hW=>HMP.o.up hW)
   have HXA:Hid (∀W,Below w3.heap.size w3 W->W.heap[w.heap.size]? =some (.cells A 29 (0,0))):=qa (fun W hW=>by
    rw[hW.block _ (by omega),HGR.o.block _ (by omega) (fun e=>by injection e with e;omega)];exact HG4.o)
   have qjw:=qa qip;have HW3:=qa hw3;have hix:=aT (P:=prog) 26 27 underlying26 (by kernel_rfl) HD.o;have qgE:=aT (P:=prog) 27 3 underlying27 (by kernel_rfl) HDQ.o;have qm0:=aT (P:=prog) 27 3 underlying27 (by kernel_rfl) HDF.o;have hbb:=HD.o.hblk (by omega);have hbq:=HDQ.o.hblk (by have:=HV.o.2.2.1;omega);have HFB:=qa HDF.o.hblk;have HQL:=qa HV.o.2.2.1;clear qip hw3 HCF HG4 HG5 HRO HRQ HMP
   go_loopg [12,65] (F.length+1) (fun gk vo i wr=>∃(k:Nat) (vs:List Value) (rv:Value),k<=F.length/\i=.int .i64 k/\eG wr (w3.heap.size+1) 27 3 vo vs (((cK d).take k).map ints)/\mY wr w3.heap.size (.slice none 0 0) rv (List.replicate 256 0)/\Own wr (w3.heap.size+1) 3 rv (ints ((F.take k).map (gZ d)))/\eG.free vo vs rv.ownBlock/\Below w3.heap.size w3 wr/\gk=F.length+1-k)
   case atStart=>exact⟨0,[],_,qd _,rfl,eG.nil _ _ _ _,HB4.o,Own.nil _ _ _,eG.free_none,qjw.o,rfl⟩
   case round=>
    clear HB4 qjw;obtain⟨k,vs,rv,hk,rfl,hom,qdZ,hrv,qd1,qcw,rfl⟩:=hrel;have hsz:=qcw.size;have HB:=qa qcw;clear qcw;have HO:=qa hom;clear hom;have HBX:=qa qdZ;clear qdZ;have HRV:=qa hrv;clear hrv;have qj8:=qa qd1;clear qd1;by_cases hlt:k<F.length
    ·have hfR:=HFR.o k hlt
     have hfn:F.getD k 0<d.next.length:=(eT HV.o).2.1 _ hfR;have HR1:=qa (HRD.o k hlt);have hgf:=HFB.o (by omega);have HTF:Hid ((F.take (k+1)).map (gZ d)=(F.take k).map (gZ d)++[gZ d (F.getD k 0)]):=qa (by rw[dE hlt rfl,qH];rfl);have HRW:Hid (∀t∈rowN_MiniM d (F.getD k 0),t∈R/\idx ks (pf t)=num d t):=qa (fun t ht=>⟨HRM.o t (sO HV.o hfR ht),HNV.o t (sO HV.o hfR ht)⟩);have HLR:Hid ((rowN_MiniM d (F.getD k 0)).length=(d.next.getD (F.getD k 0) []).length):=qa (lI d _)
     have HIR:Hid (∀j,j<(d.next.getD (F.getD k 0) []).length->(d.next.getD (F.getD k 0) []).getD j 0=(((rowN_MiniM d (F.getD k 0)).getD j 0:Nat):Int)):=qa (fun j hj=>by
      rw[q0r _ _ _ hj];have:=q0G HV.o hfn _ (cE (d.next.getD (F.getD k 0) []) j 0 hj);omega)
     have hll:=G2 HV.o HLC.o hfn;have HXF:=qa (fun W hW=>(HX.o W hW).2.2.2.2.1 (F.getD k 0) hfn);have qiu:=(HX.o wr HB.o).2.2.1 k hlt;have qkJ:=(HX.o wr HB.o).1;obtain⟨oi,ci,bi,fi,hck,hdk,hcj⟩:=HXF.o wr HB.o;have hs1:w.heap.size<wr.heap.size:=by omega
     have hs2:gf<wr.heap.size:=by omega
     have hs3:b<wr.heap.size:=by omega
     generalize F.getD k 0=f at*;generalize d.next.getD f []=row at*
     have HFW:Hid (∀W,Below w3.heap.size w3 W->W.cell? ⟨gf,k,none⟩=some (.int .i64 (f:Int))):=qa (by
      intro W hW;rw[hW.cell (p:=⟨gf,k,none⟩) hgf,<-HB.o.cell (p:=⟨gf,k,none⟩) hgf];exact qiu)
     have HCJ:=qa hcj;clear hcj;have HDK:=qa hdk;clear hdk;have qd5:=aT (P:=prog) 27 3 underlying27 (by kernel_rfl) HDK.o;go_wp2;obtain⟨wo,rfl⟩:∃wo:World,wo=wr:=⟨_,rfl⟩
     go_loopg [15,75] (row.length+1) (fun gk vl i wr=>∃c:Nat,c<=row.length/\i=.int .i64 c/\Own wr wo.heap.size 3 vl (ints (nl (((rowN_MiniM d f).take c).map (num d))))/\Below wo.heap.size wo wr/\gk=row.length+1-c)
     case atStart=>exact⟨0,qd _,rfl,Own.nil _ _ _,qn _ _,rfl⟩
     case round=>
      obtain⟨c,hc,rfl,how,qcw,rfl⟩:=hrel;have qcH:=qcw.size;have hb3:Below w3.heap.size w3 wr:=HB.o.trans (qcw.mono hsz);have HBB:=qa qcw;clear qcw;have HOO:=qa how;clear how;by_cases qcM:c<row.length
      ·have hbi:=HDK.o.hblk (by omega)
       have hs5:bi<wr.heap.size:=by omega
       have hcc:=(HBB.o.cell (p:=⟨bi,fi+c,none⟩) (show bi<wo.heap.size by omega)).trans (HCJ.o c qcM);have hlr:c<(rowN_MiniM d f).length:=by rw[HLR.o];exact qcM
       obtain⟨htn,hnt⟩:=HRW.o _ (cE (rowN_MiniM d f) c 0 hlr);have HT:Hid ((rowN_MiniM d f).take (c+1)=(rowN_MiniM d f).take c++[(rowN_MiniM d f).getD c 0]):=qa (aV _ _ _ hlr);rw[HIR.o c qcM]at hcc;have hcn:=(HX.o wr hb3).2.2.2.1 _ htn;have hkm:=HMK.o _ htn;obtain⟨q,hq,hqn⟩:=HPR.o _ htn;have htl:=HRB.o _ htn;generalize (rowN_MiniM d f).getD c 0=t at*;rw[hq]at hcn hkm hnt;have HKEY:=qa (q6F (q:=q) (by omega));obtain⟨D,hD,hM⟩:=HXM.o wr hb3;have HDM:=qa hD;clear hD;have HM:=qa hM;clear hM;have HKM:=qa hkm;clear hkm;have hs4:bt<wr.heap.size:=by omega
       have HNT:=qa hnt;clear hnt hq;generalize hy:num d t=y at*;have HY:=qa hy;clear hy;have HLN:Hid ((ints (nl (((rowN_MiniM d f).take c).map (num d)))).length+(ints (nl [y])).length<=4294967296):=qa (by simp;omega)
       go_wp2_with(first|(at_lookup;go_loud (refine wpList_lookup_own_int _ rfl _ _ 92 rfl 3 3 .i64 wE underlying92 underlying3 (dW _) w1.heap.size _ D rfl HDM.o _ _ rfl HKEY.o ?_;intro c0 hat hwc;have hce:=(HM.o.at_eq HKM.o hat).trans (j0 Int.ofNat HNT.o);subst hce;clear hat hwc))|(at_builtin;go_loud (refine bF rfl (.tmp 79) (.tmp 86) 27 rfl wo.heap.size 3 (.int .i64 0) 8 underlying27 (by kernel_rfl) rfl (by decide) u15 (ints (nl (((rowN_MiniM d f).take c).map (num d)))) rfl (HOO.o.up (aD _ _)) (.slice (some ⟨wr.heap.size,0,none⟩) 1 1) (ints (nl [y])) rfl (by simpa[ints,nl]using eK wr #[.int .i64 (y:Int)] 3 (by simp)) (iC _) HLN.o (qc qcH (by simp)) ?_;intro v' w5 hown1 hg1 hk1;have HO1:=qa hown1;have HG1:=qa hg1;clear hown1 hg1 hk1)))
       go_roundg (row.length+1-(c+1))
       case measure=>omega
       case rel=>
        refine⟨c+1,by omega,by go_num,?_,eO (B:=wo.heap.size) (HBB.o.alloc qcH _) (by simp;omega) (HOO.o.up aO) HG1.o,rfl⟩;rw[HT.o,qH,qJ,ju,HY.o,uV,lJ];exact HO1.o
      have hcr:c=row.length:=by omega
      subst hcr;have htk:(rowN_MiniM d f).take row.length=rowN_MiniM d f:=qG (by rw[HLR.o];exact qb _);rw[htk]at HOO;obtain⟨ou,cu,gu,rfl,-⟩:=HOO.o.cases;have hul:(ints (nl ((rowN_MiniM d f).map (num d)))).length=row.length:=by simp[HLR.o]
      rw[hul]at HOO⊢;clear hul htk;have HSP:=qa (HO.o.up HBB.o);have qh3:=qa (HRV.o.up HBB.o);have HBQ:=qa (HBX.o.up HBB.o);have hsB:w3.heap.size+1<=wr.heap.size:=by have:=HBQ.o.lt;omega
      have hvl:vs.length=k:=by have h:=HSP.o.len;simp[HRL.o]at h;omega
      clear hck qkJ qiu hs1 hs2 hs3
      go_wp2_with(at_builtin;go_loud (refine bF rfl (.tmp 89) (.tmp 91) 26 rfl (w3.heap.size+1) 27 (.slice none 0 0) 24 underlying26 (by kernel_rfl) rfl (by decide) u12 vs rfl (HSP.o.outer.up (aD _ _)) (.slice (some ⟨wr.heap.size,0,none⟩) 1 1) [.slice ou row.length cu] rfl (eK wr #[_] 27 (by simp)) (by simp;exact gO HOO.o) (by simp;omega) (qc hsB (by simp)) ?_;intro v' w5 hown1 hg1 hk1;have HO1:=qa hown1;have HG1:=qa hg1;have HK1:=qa hk1;clear hown1 hg1 hk1))
      have qi0:=HSP.o.push (r:=.slice ou row.length cu) (HOO.o.mono (show w3.heap.size+1<=wo.heap.size by have:=HBX.o.lt;omega)) (by
       cases hu:(Value.slice ou row.length cu).ownBlock with
       |none=>exact eG.free_none
       |some q=>exact⟨fun j hj e=>by have:=(HOO.o.lt q hu).1;have:=HO.o.outer.lt j hj;injection e with e;omega,fun a ha j hj e=>by have:=(HOO.o.lt q hu).1;have:=(HO.o.rows a (by rw[<-HO.o.len];exact ha)).lt j hj;injection e with e;omega⟩) (aK (aD _ _) none) HO1.o HG1.o HK1.o
      have qiU:=qa qi0;clear qi0;have hg0:wr.grownBy w5 u12.ownBlock:=aL (aK (aD _ _) _) HG1.o;have qh2:=qa (qh3.o.keep hg0 (bN fun j hj e=>qj8.o.1 j e hj));have qcO:=qa (HBQ.o.keep hg0 (fun e=>by have:=HSP.o.outer.lt _ e;omega));have hb5:Below w3.heap.size w3 w5:=eO (B:=w3.heap.size) hb3 (by omega) (HSP.o.outer.mono (jd _)) hg0;have HB5:=qa hb5
      have qj7:=qa (eG.free_push (r:=.slice ou row.length cu) (v':=v') qj8.o qh3.o (fun j hj e=>by have:=(HOO.o.lt j hj).1;have:=HRV.o.lt j e;omega) (fun j hj=>by
       rcases HK1.o j hj with h|h
       ·exact .inl h
       right;simp at h;omega))
      obtain⟨-,hA2,-,-,-,hA6⟩:=HX.o w5 hb5;have hfk:=HFW.o w5 hb5;have hfr:f<d.rules.length:=by rw[HQL.o];exact hfn
      have hrq:=hA6 f hfr;have hcb:=qcO.o.cellR;have hzz:w3.heap.size<w5.heap.size:=qcO.o.lt;have hs1:w.heap.size<w5.heap.size:=by omega
      have hs2:gf<w5.heap.size:=by omega
      have hs3:bq<w5.heap.size:=by omega
      have HRF:Hid (d.rules.getD f 0=gZ d f):=qa rfl;have HZL:Hid ((ints ((F.take k).map (gZ d))).length<=1000):=qa (by simp;omega);clear hA6 hb5 hg0 HSP qh3 HBQ;generalize d.rules.getD f 0=y at*;refine aR [0,1,2,3,4,5,6] [7] [8,9,10] (by kernel_rfl) (by kernel_rfl) ?_;simp only[pk]
      repeat(go_big_quiet_step (fail))
      refine wpQuiet_nil ?_
      (unfold aF;go_wp2;refine⟨(aJ aO),?_⟩)
      unfold aF;unfold aF
      have hx:Sl ((w5.alloc (.cells #[.int .i64 y] 3)).drew) (.slice (some ⟨w5.heap.size,0,none⟩) 1 1) (ints [y]):=by
       have h1:=(eK w5 #[.int .i64 y] 3 (by simp)).up (aX _ 1);rw[<-World.drew_is_drewN]at h1;simpa[ints]using h1
      go_wp2_with(at_builtin;go_loud (refine bF rfl (.tmp 94) (.tmp 100) 27 rfl (w3.heap.size+1) 3 (.int .i64 0) 8 underlying27 (by kernel_rfl) rfl (by decide) rv (ints ((F.take k).map (gZ d))) rfl (qh2.o.up aO) (.slice (some ⟨w5.heap.size,0,none⟩) 1 1) (ints [y]) rfl hx (iC _) (by have:=HZL.o;simp at this⊢;omega) (qc (Nat.succ_le_of_lt hzz) (by simp)) ?_;intro v6 w6 hown1 hg1 hk1;obtain⟨oz,nz,cz,rfl⟩:=q0J hown1;have HO6:=qa hown1;have HG6:=qa hg1;have HK6:=qa hk1;clear hown1 hg1 hk1))
      refine⟨trivial,?_⟩;unfold aF;go_wp2;refine⟨trivial,?_⟩;unfold aF;have hg5:w5.grownBy w6 rv.ownBlock:=aL (aK aO _) HG6.o;have qhw:=qa (qcO.o.keep hg5 (fun e=>by have:=qh2.o.lt _ e;omega));have qmo:=qhw.o.cellR;have qmc:=qhw.o.free 257;go_wp2;refine⟨trivial,?_⟩;unfold aF;go_wp2
      go_roundg (F.length+1-(k+1))
      case measure=>omega
      case rel=>
       have qhZ:=qiU.o.keep' hg5 qj7.o;obtain⟨hbs,hgs⟩:=qhw.o.setR (.slice oz nz cz);have hb6:Below w3.heap.size w3 w6:=eO (B:=w3.heap.size) HB5.o (by omega) (qh2.o.mono (jd _)) hg5
       have hk6:∀j,(Value.slice oz nz cz).ownBlock=some j->rv.ownBlock=some j\/w5.heap.size<=j:=fun j hj=>by
        rcases HK6.o j hj with h|h
        ·exact .inl h
        right;simp at h;omega
       refine⟨k+1,vs++[.slice ou row.length cu],.slice oz nz cz,by omega,by go_num,?_,hbs,?_,qiU.o.free_step qj7.o hk6,hb6.setCell (qb _) _,rfl⟩
       ·rw[dE (z:=[]) (by rw[HRL.o];exact hlt) HR1.o,qH]
        exact qhZ.keep' hgs (qhZ.free_below (qV _))
       rw[HTF.o,lJ,<-HRF.o];exact HO6.o.keep hgs (HO6.o.ne_lt (qV _))
    have hkF:k=F.length:=by omega
    subst hkF;have htr:(cK d).take F.length=cK d:=qG (by rw[HRL.o];exact qb _);rw[htr]at HO;rw[j3]at HRV;obtain⟨w7,rfl⟩:∃w7:World,w7=wr:=⟨_,rfl⟩;clear htr;have HRA:Hid (∀W,w7.grownBy W (some w3.heap.size)->o8 W u12 (cK d)):=qa (fun W hW=>(HO.o.keep' hW (HO.o.free_below (qV _))).rowsG.ints);obtain⟨o9,cap9,b9,f9,qjE,-,-⟩:=(HRA.o w7 (dL _ _)).open;subst qjE;have qhS:(cK d).length=F.length:=HRL.o;rw[qhS]at HRA⊢;clear qhS HO
    have HRK:Hid (∀c,c<256->0<=d.cls.getD c 0/\∀j,j<(cK d).length->d.cls.getD c 0<((cK d).getD j []).length):=qa (fun c hc=>by
     obtain⟨k0,hk0,-⟩:=q2U HV.o HLC.o (i:=0) (by omega) hc;refine⟨by omega,fun j hj=>?_⟩;have hj':j<F.length:=by rw[<-HRL.o];exact hj
     have hfn:=(eT HV.o).2.1 _ (HFR.o j hj');obtain⟨k1,hk1,hk2⟩:=q2U HV.o HLC.o hfn hc;rw[HRD.o j hj',lS,qB,lI];omega)
    have HXS:Hid (∀j,j<(cK d).length->∀i,0<=((cK d).getD j []).getD i 0/\((cK d).getD j []).getD i 0<65536):=qa (fun j hj i=>q1N HV.o hj i);have hwb:Below w.heap.size w w7:=HW3.o.trans (HB.o.mono HW3.o.size);have qfm:=HCO.o w7 hwb (.slice o9 F.length cap9) (cK d) (HRA.o w7 (dL _ _)) HRK.o HXS.o (by rw[HRL.o];omega);have qht:=qa qfm;clear qfm hwb;have hGA:=HXA.o w7 HB.o;have HGA:=qa hGA;clear hGA;have hz2:=wA;obtain⟨Z2,hZ2⟩:∃Z2,Z2=lW:=⟨_,rfl⟩;rw[<-hZ2]at hz2;have HNC:∀W:World,Hid (wI (W.alloc (.cells Z2 25)) W.heap.size (List.replicate 256 0)):=fun W=>qa (by rw[hZ2];exact W7 W);clear hZ2;have qji:Hid ((q0Z (cK d) d.cls).length=256):=qa (by simp[q0Z,HLC.o]);have qeL:w3.heap.size<w7.heap.size:=HBX.o.lt;have qlD:w.heap.size+1<w3.heap.size:=qel.o.lt
    go_wp2_with(first|(refine dI rfl _ rfl w.heap.size rfl A HS.o HGA.o ?_)|(go_at_call 34;refine qht.o.mono ?_;rintro e w8 ⟨vl,B,rfl,hol,hBl,hb8⟩;obtain⟨ol9,cl9,gl9,rfl,-⟩:=hol.cases;rw[aS]at hol⊢;have HOL:=qa hol;have qlv:=qa hBl;have HB8:=qa hb8;have qlK:=hb8.size;clear hol hBl hb8)|(refine q6G rfl _ _ rfl w8.heap.size rfl B rfl qlv.o qji.o (HNC w8).out ?_;intro w85 qgM qgI;have qmz:=qa qgM;obtain⟨C9,hC9,qiw,qix⟩:=qgM.open;have HC9:=qa hC9;have qlo:=qa qiw;have qlp:=qa qix;have qj4:=qa qgI;have qhu:=qa (((HBX.o.up HB8.o).up (aD w8 (.cells Z2 25))).keep qgI (fun e=>by injection e with e;omega));clear qgM qgI hC9 qiw qix)|(refine q8a rfl _ rfl w8.heap.size rfl C9 qlo.o HC9.o ?_)|(refine q6H rfl _ _ rfl w3.heap.size rfl C9 rfl qlp.o qji.o qhu.o ?_;intro w9 hb9 hg9;have qdg:=qa hb9;have HG9:=qa hg9;clear hb9 hg9))
    have qie:w7.grownBy w9 (some w3.heap.size):=by
     have h1:Below w7.heap.size w7 w85:=((HB8.o.alloc (by omega) _)).grown qj4.o (by simp;omega) (fun j hj=>by cases hj;omega);exact aL (aK h1 _) HG9.o
    have HGC:=qa qie;clear qie;have qh1:=qa (HRV.o.keep HGC.o (HRV.o.ne_lt (qV _)));have HRS:Hid (∀W,w9.grownBy W (some w3.heap.size)->o8 W (.slice o9 F.length cap9) (cK d)):=qa (fun W hW=>HRA.o W (aL HGC.o hW))
    have HLS:Hid (∀W,w9.grownBy W (some w3.heap.size)->eB W (.slice ol9 (G5 (cK d) d.cls).length cl9) (G5 (cK d) d.cls)):=qa (fun W hW=>by
     have h1:=(HOL.o.up (aD w8 (.cells Z2 25))).keep qj4.o (.inr (fun e=>by have:=(HOL.o.lt _ e).2;omega));exact((h1.keep HG9.o (h1.off qeL)).keep hW (h1.off qeL)).sl)
    have qh6:Hid ((tU (cK d) (G5 (cK d) d.cls)).length=F.length):=qa (by simp[tU,HRL.o]);generalize hlf:G5 (cK d) d.cls=lf at*;go_wp2
    go_loopg [114] (F.length+1) (fun gk i wr=>∃(k:Nat) (vs:List Value) (nv:Value),k<=F.length/\i=.int .i64 k/\mY wr w3.heap.size nv rv (q0Z (cK d) d.cls)/\eG wr w9.heap.size 27 3 nv vs (((tU (cK d) lf).take k).map ints)/\w9.grownBy wr (some w3.heap.size)/\gk=F.length+1-k)
    case atStart=>exact⟨0,[],_,qd _,rfl,qdg.o,eG.nil _ _ _ _,dL _ _,rfl⟩
    case round=>
     obtain⟨k,vs,nv,hk,rfl,qdZ,hom,hgr,rfl⟩:=hrel;have HBN:=qa qdZ;clear qdZ;have HON:=qa hom;clear hom;have HGN:=qa hgr;clear hgr;obtain⟨oz,cz,bz,fz,hez,hdz,hrz⟩:=(HRS.o wr HGN.o).open;obtain⟨oy,cy,by_,fy,hey,hdy,hry⟩:=(HLS.o wr HGN.o).open;have hzl:(cK d).length=F.length:=HRL.o;rw[hzl]at hez hdz hrz;cases hez;cases hey;by_cases hlt:k<F.length
     ·obtain⟨oi,ci,bi,fi,hck,hdk,hcj,-⟩:=hrz k hlt
      have HLV:Hid (∀j,j<lf.length->0<=lf.getD j 0/\lf.getD j 0<((cK d).getD k []).length):=qa (fun j hj=>by
       have hm:lf.getD j 0∈d.cls:=cX (f:=pN (cK d)) (by rw[show aG (pN (cK d)) d.cls=lf from hlf];exact cE lf j 0 hj);obtain⟨a,ha,hae⟩:=List.mem_iff_getElem.1 hm;have h1:=HRK.o a (by rw[<-HLC.o];exact ha);have e:d.cls.getD a 0=lf.getD j 0:=by rw[<-hae];simp[List.getD,ha]
       rw[e]at h1;exact⟨h1.1,h1.2 k (by rw[HRL.o];exact hlt)⟩)
      have HNR:Hid ((tU (cK d) lf).getD k []=lf.map fun kap=>((cK d).getD k []).getD kap.toNat 0):=qa (by
       have:k<(cK d).length:=by rw[HRL.o];exact hlt
       simp[tU,List.getD,this])
      generalize (cK d).getD k []=row at*;have qe5:w9.heap.size<=wr.heap.size:=HGN.o.size
      have qlW:lf.length<=256:=by
       have:=iW (pN (cK d)) d.cls;rw[show aG (pN (cK d)) d.cls=lf from hlf,HLC.o]at this;exact this
      have HCK:=qa hck;have HCJ:=qa hcj;have HRY:=qa hry;have HDY:=qa hdy;have HDZ:=qa hdz;have HDK:=qa hdk;have hbz:=hdz.hblk (by omega);have qm1:=aT (P:=prog) 26 27 underlying26 (by kernel_rfl) hdz;have qk5:=aT (P:=prog) 27 3 underlying27 (by kernel_rfl) hdy;have qd5:=aT (P:=prog) 27 3 underlying27 (by kernel_rfl) hdk;clear hck hcj hry hdy hdz hdk hrz;obtain⟨cn,hcn⟩:∃l:List Int,l=lf.map fun kap=>row.getD kap.toNat 0:=⟨_,rfl⟩;have qij:cn.length=lf.length:=by rw[hcn];simp
      have HCN:Hid (∀j,j<lf.length->cn.getD j 0=row.getD (lf.getD j 0).toNat 0):=qa (fun j hj=>by rw[hcn];simp[List.getD,hj]);rw[<-hcn]at HNR;have qhq:=qa qij;clear hcn qij;have hck:=HCK.o;go_wp2;clear hck;obtain⟨wo,rfl⟩:∃wo:World,wo=wr:=⟨_,rfl⟩
      go_loopg [22,120] (lf.length+1) (fun gk vl i wr=>∃c:Nat,c<=lf.length/\i=.int .i64 c/\Own wr wo.heap.size 3 vl (ints (cn.take c))/\Below wo.heap.size wo wr/\gk=lf.length+1-c)
      case atStart=>exact⟨0,qd _,rfl,Own.nil _ _ _,qn _ _,rfl⟩
      case round=>
       obtain⟨c,hc,rfl,how,qcw,rfl⟩:=hrel;have qcH:=qcw.size;have HBB:=qa qcw;clear qcw;have HOO:=qa how;clear how;by_cases qcM:c<lf.length
       ·have hv9:=HLV.o c qcM
        have hw1:=(HBB.o.cell (p:=⟨bz,fz+k,none⟩) hbz).trans HCK.o;have hby:=HDY.o.hblk (by omega);have hw2:=(HBB.o.cell (p:=⟨by_,fy+c,none⟩) hby).trans (HRY.o c qcM);have hbi:=HDK.o.hblk (by omega);have hw3:=(HBB.o.cell (p:=⟨bi,fi+(lf.getD c 0).toNat,none⟩) hbi).trans (HCJ.o (lf.getD c 0).toNat (by omega));rw[<-HCN.o c qcM]at hw3;have HT:Hid (cn.take (c+1)=cn.take c++[cn.getD c 0]):=qa (aV _ _ _ (by rw[qhq.o];exact qcM));have hs1:bz<wr.heap.size:=by omega
        have hs2:by_<wr.heap.size:=by omega
        have hs3:bi<wr.heap.size:=by omega
        generalize lf.getD c 0=kap at*;generalize cn.getD c 0=y at*;have HLN:Hid ((ints (cn.take c)).length+(ints [y]).length<=4294967296):=qa (by simp;omega)
        go_wp2_with(at_builtin;go_loud (refine bF rfl (.tmp 124) (.tmp 129) 27 rfl wo.heap.size 3 (.int .i64 0) 8 underlying27 (by kernel_rfl) rfl (by decide) u22 (ints (cn.take c)) rfl (HOO.o.up (aD _ _)) (.slice (some ⟨wr.heap.size,0,none⟩) 1 1) (ints [y]) rfl (by simpa[ints]using eK wr #[.int .i64 y] 3 (by simp)) (iC _) HLN.o (qc qcH (by simp)) ?_;intro v' w10 hown1 hg1 hk1;have HO1:=qa hown1;have HG1:=qa hg1;clear hown1 hg1 hk1))
        go_roundg (lf.length+1-(c+1))
        case measure=>omega
        case rel=>
         refine⟨c+1,by omega,by go_num,?_,eO (B:=wo.heap.size) (HBB.o.alloc qcH _) (by simp;omega) (HOO.o.up aO) HG1.o,rfl⟩;rw[HT.o,lJ];exact HO1.o
       have qkn:c=lf.length:=by omega
       subst qkn;have hct:cn.take lf.length=cn:=qG (by rw[qhq.o];exact qb _);rw[hct]at HOO;clear hct;obtain⟨ou,cu,gu,rfl,-⟩:=HOO.o.cases;have hul:(ints cn).length=lf.length:=by rw[aS,qhq.o]
       rw[hul]at HOO⊢;clear hul;have qhz:=qa (HBN.o.up HBB.o);have qfJ:=qa (HON.o.up HBB.o);have hcb:=qhz.o.cellN;have hbl:=qhz.o.lt;have hvl:vs.length=k:=by have h:=qfJ.o.len;simp[qh6.o]at h;omega
       have qjH:w9.heap.size<=wr.heap.size:=qc qe5 qcH
       go_wp2_with(at_builtin;go_loud (refine bF rfl (.tmp 133) (.tmp 135) 26 rfl w9.heap.size 27 (.slice none 0 0) 24 underlying26 (by kernel_rfl) rfl (by decide) nv vs rfl (qfJ.o.outer.up (aD _ _)) (.slice (some ⟨wr.heap.size,0,none⟩) 1 1) [.slice ou lf.length cu] rfl (eK wr #[_] 27 (by simp)) (by simp;exact gO HOO.o) (by simp;omega) (qc qjH (by simp)) ?_;intro v' w11 hown1 hg1 hk1;obtain⟨oq1,nq1,cq1,rfl⟩:=q0J hown1;have HO1:=qa hown1;have qez:=aL (aK (aD wr (.cells #[.slice ou lf.length cu] 27)) _) hg1;have HG1:=qa hg1;have qeo:=qa qez;have HK1:=qa hk1;have qdc:=qa (qhz.o.keep qez (fun e=>by have:=qfJ.o.outer.lt _ e;have:=qdg.o.lt;omega));have qmp:=qdc.o.cellN;have qmd:=qdc.o.free 256;clear hown1 hg1 hk1 qez))
       go_roundg (F.length+1-(k+1))
       case measure=>omega
       case rel=>
        obtain⟨hbs,hgs⟩:=qdc.o.setN (.slice oq1 nq1 cq1)
        have hp:=qfJ.o.push (r:=.slice ou lf.length cu) (HOO.o.mono qe5) (by
         cases hu:(Value.slice ou lf.length cu).ownBlock with
         |none=>exact eG.free_none
         |some q=>exact HON.o.free_new (HOO.o.lt q hu).1) (aK (aD _ _) none) HO1.o HG1.o HK1.o
        refine⟨k+1,vs++[.slice ou lf.length cu],.slice oq1 nq1 cq1,by omega,by go_num,hbs,?_,aL (O7 (aL HGN.o (aK HBB.o _)) qeo.o (fun j hj=>(qfJ.o.outer.lt j hj).1)) hgs,rfl⟩;rw[dE (z:=[]) (by rw[qh6.o];exact hlt) HNR.o,qH];exact hp.keep' hgs (hp.free_below qdg.o.lt)
     have qk2:k=F.length:=by omega
     subst qk2;have htn:(tU (cK d) lf).take F.length=tU (cK d) lf:=qG (by rw[qh6.o];exact qb _);rw[htn]at HON;clear htn;have hg7:w7.grownBy wr (some w3.heap.size):=aL HGC.o HGN.o;have hr3:=qel.o.lt;have qfG:Hid (mY wr (w.heap.size+1) (.slice none 0 0) (.slice none 0 0) (List.replicate 256 0)):=qa ((qel.o.up HB.o).keep hg7 (fun e=>by injection e with e;omega));have qiQ:=qa (qh1.o.keep HGN.o (qh1.o.ne_lt (qV _)));have HWF:=qa (HW3.o.trans (HB.o.mono HW3.o.size));obtain⟨A9,hA9,hs9,hl9⟩:=HBN.o.open;have HA9:=qa hA9;have HS9:=qa hs9;have HL9:=qa hl9;have qf9:nv.oneCell'=true:=gO HON.o.outer;have qeY:rv.oneCell'=true:=gO qh1.o;clear hA9 hs9 hl9 hrz hry hdz hdy
     go_wp2_with(first|(refine dI rfl _ rfl w3.heap.size rfl A9 HS9.o HA9.o ?_)|(refine fL rfl _ _ rfl (w.heap.size+1) rfl A9 rfl HL9.o HBN.o.len qf9 qeY qfG.o ?_;intro w12 qcU qcT;have qcY:=qa qcU;have qcV:=qa qcT;clear qcU qcT))
     have hg9:wr.grownBy w12 (some (w.heap.size+1)):=qcV.o;have qlJ:=HGC.o.size;have qlI:=hg7.size;have qf3:=HON.o.keep' hg9 (HON.o.free_below (by omega));have qeW:=qiQ.o.keep hg9 (qiQ.o.ne_lt (by omega));refine q32 rfl rfl rfl rfl qcY.o fun A hA=>⟨A,by rw[HE.o];rfl,?_,?_⟩
     ·rw[HI.o,bX,hF,hlf];exact⟨nv,vs,rv,_,_,hA,qcY.o.len,by omega,by omega,qf3,qeW⟩
     have hb1:Below w.heap.size w wr:=Below.grown (B:=w.heap.size) HWF.o hg7 (by omega) (fun j hj=>by cases hj;omega);exact hb1.grown hg9 (by omega) (fun j hj=>by cases hj;exact jd _)
 have hrb:=bI hv;have HI:=qa (q88 hv);have HE:=qa (q89 hv);clear hv;go_enter func9,ntmps9
 go_wp2_with(first|(refine dI rfl _ rfl w.heap.size rfl A HS.o HG2.o ?_)|(go_at_call 31;refine(HL.o _ aO).mono ?_;rintro e w' ⟨rfl,x,rfl⟩;rw[hrb])|(refine fL rfl _ _ rfl (w.heap.size+1) rfl Z rfl (HZ.o▸mT) qP rfl rfl (HB2.o.up (aE _ _)) ?_;intro w1 hb1 hg1;have HB1:=qa hb1;have HGR:=qa hg1;clear hb1 hg1))
 refine q32 rfl rfl rfl rfl HB1.o fun A hA=>⟨A,by rw[HE.o];rfl,by rw[HI.o];exact⟨_,[],_,_,_,hA,qP,qb _,qb _,eG.nil _ _ _ _,Own.nil _ _ _⟩,?_⟩;exact Below.grown (B:=w.heap.size) aO HGR.o (qc (by simp;omega) (iP _ _)) (fun j hj=>by cases hj;exact jd _)
theorem qb3(v:Value)(d:Dfa)(w:World)(h:mX w v d):Calls prog 9 #[v] w (qa0 d w):=
 (qbN v d w h).mono fun _ _ ⟨A,h1,h2,h3⟩=>⟨.agg A,h1,⟨A,rfl,h2.val⟩,h3⟩
end Go.Cm
