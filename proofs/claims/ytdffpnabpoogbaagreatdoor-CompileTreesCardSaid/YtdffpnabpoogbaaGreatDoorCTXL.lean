/- Walks of functions and plain facts, joined and squeezed by a program. Conditions: as each says. -/
import Derived.Laws.EntriesVeiled
import Derived.Laws.IdiomCopy
import Derived.Test.YtdffpnabpoogbaaGreatDoorCTXK
import Derived.Test.YtdffpnabpoogbaaGreatDoorCTXI
import Derived.Test.YtdffpnabpoogbaaGreatDoorCTXJ
set_option maxHeartbeats 8000000
set_option maxRecDepth 100000
set_option linter.unusedSimpArgs false
open Go.Proofs.Tryz
namespace Go.Cm
theorem ZmL0{P:Prop}(h:P:=by
 go_wp2_with(refine aH rfl 226 _ rfl bi (fi+j*6) 6 rfl _ _ HCD.o rfl underlying226 rfl (by kernel_rfl) ?_)
 go_roundg (ln-(j+1))
 case measure=>omega
 case rel=>
  refine⟨j+1,by go_num,by omega,fun q hq=>?_,HB8.o,rfl⟩;by_cases hqj:q=j
  ·rw[hqj,<-HED.o];exact HOK.o
  exact HAJ.o q (by omega)):P:=h
theorem ZmL1{P:Prop}(h:P:=by
 have HV:=qa (HFE.o (by unfold W0;simp;omega))
 clear c1
 go_upto_region 12 with(refine aH rfl 226 _ rfl bi (fi+j*6) 6 rfl _ _ HCD.o rfl underlying226 rfl (by kernel_rfl) ?_)
 go_upto_region 13 with fail
 go_wp2;go_ret;exact⟨by rw[HV.o];rfl,aI HB7.o⟩):P:=h
theorem ZmL2{P:Prop}(h:P:=by
 unfold tI mJ
 have h2:(if c<64 then x.a else if c<128 then x.b else if c<192 then x.c else x.d)=(if c/64=0 then x.a else if c/64=1 then x.b else if c/64=2 then x.c else x.d):=by
  (repeat' split)<;>first|rfl|omega
 rw[h2]):P:=h
theorem ZmL3{P:Prop}(h:P:=by
 have HV:=qa (HFI.o (by
  cases hq:o4 m ri row with
  |false=>rfl
  |true=>have:=(HRW.o.1 hq).1;omega))
 go_wp2;go_ret;exact⟨by rw[HV.o];rfl,aI HWW.o⟩):P:=h
theorem ZmL4{P:Prop}(h:P:=by
 go_roundg (ln-(i+1))
 case measure=>omega
 case rel=>exact⟨i+1,by go_num,by omega,by rw[HNX.o,qek.o];exact HOW.o,HW.o,rfl⟩):P:=h
theorem ZmL5{P:Prop}(h:P:=by unfold mJ;rcases(show c/64=0\/c/64=1\/c/64=2\/c/64=3 by omega)with h|h|h|h<;>rw[h]<;>rfl):P:=h
theorem ZmL6{P:Prop}(h:P:=by
 have:(ints cl).length=256:=by rw[aV,h]
 rw[qq,jf (by omega),this];rfl):P:=h
def tI(x:Ed)(c:Nat):Bool:=(if c<64 then x.a else if c<128 then x.b else if c<192 then x.c else x.d)/2^(c%64)%2==1
abbrev Row(e:List (List Ed))(a:Nat):List Ed:=e.getD a []
inductive pA(e:List (List Ed))(s:Nat):List Nat->Nat->Prop
 |nil:pA e s [] s
 |free {w:List Nat} {a b:Nat} {x:Ed}:pA e s w a->x∈Row e a->x.free=true->x.to=b->pA e s w b
 |byte {w:List Nat} {a b c:Nat} {x:Ed}:pA e s w a->x∈Row e a->x.free=false->tI x c=true->x.to=b->pA e s (w++[c]) b
theorem pA.trans{e:List (List Ed)}{s a b:Nat}{w v:List Nat}(h:pA e s w a)(k:pA e a v b):pA e s (w++v) b:=by
 induction k with
 |nil=>simpa using h
 |free _ h1 h2 h3 ih=>exact .free ih h1 h2 h3
 |byte _ h1 h2 h3 h4 ih=>rw[<-qj];exact .byte ih h1 h2 h3 h4
theorem pA.one{e:List (List Ed)}{s b:Nat}{x:Ed}(h:x∈Row e s)(hf:x.free=true)(ht:x.to=b):pA e s [] b:=.free .nil h hf ht
theorem pA.sub{e e':List (List Ed)}{D:Nat->Prop}(h1:∀a x,D a->x∈Row e a->∃b:Nat,x.to=b/\D b)(h2:∀a x,D a->x∈Row e a->x∈Row e' a){s a:Nat}{w:List Nat}(hs:D s)(h:pA e s w a):D a/\pA e' s w a:=by
 induction h with
 |nil=>exact⟨hs,.nil⟩
 |free _ k1 k2 k3 ih=>
  obtain⟨b,hb,hd⟩:=h1 _ _ ih.1 k1;obtain rfl:=jo (hb.symm.trans k3);exact⟨hd,.free ih.2 (h2 _ _ ih.1 k1) k2 k3⟩
 |byte _ k1 k2 k3 k4 ih=>
  obtain⟨b,hb,hd⟩:=h1 _ _ ih.1 k1;obtain rfl:=jo (hb.symm.trans k4);exact⟨hd,.byte ih.2 (h2 _ _ ih.1 k1) k2 k3 k4⟩
abbrev Lng:=List Nat->Prop
def eps:Lng:=fun w=>w=[]
def cat(A B:Lng):Lng:=fun w=>∃u v,w=u++v/\A u/\B v
def q9A(A:Lng):Nat->Lng
 |0=>eps
 |k+1=>cat (q9A A k) A
def q8a(A:Lng):Lng:=fun w=>∃k,q9A A (k+1) w
theorem q4N{A:Lng}{w:List Nat}(h:A w):q8a A w:=⟨0,[],w,by simp,rfl,h⟩
theorem q2w{A:Lng}{w v:List Nat}(h:q8a A w)(hv:A v):q8a A (w++v):=by
 obtain⟨k,hk⟩:=h;exact⟨k+1,w,v,rfl,hk,hv⟩
def many_NtA(c2:Bool)(L:Lng):Lng:=fun w=>if c2 then q8a L w else L w
def q6J(c2:Bool)(L:Lng):Lng:=fun w=>w=[]\/(c2=true/\q8a L w)
theorem zV{c2:Bool}{L:Lng}{w v:List Nat}(h:q6J c2 L w)(hv:L v):many_NtA c2 L (w++v):=by
 unfold many_NtA;rcases h with rfl|⟨rfl,h⟩
 ·cases c2
  ·simpa using hv
  simpa using q4N hv
 simpa using q2w h hv
theorem q1n{c2:Bool}{L:Lng}{w:List Nat}(h:many_NtA c2 L w)(hc:c2=true):q6J c2 L w:=by
 subst hc;exact .inr ⟨rfl,by simpa[many_NtA]using h⟩
structure Ext(D B:Nat->Prop)(e eq e':List (List Ed))(qf ql at_ z:Nat)(c1 c2:Bool):Prop where
 din:∀a x,D a->x∈Row e a->∃b:Nat,x.to=b/\D b
 bin:∀a x,B a->x∈Row eq a->∃b:Nat,x.to=b/\B b
 apart:∀a,D a->¬B a
 hat:D at_
 hf:B qf
 hl:B ql
 hz:c1=true->D z/\Row e z=[]/\z≠at_
 dro:∀a x,D a->(x∈Row e' a↔x∈Row e a\/(a=at_/\x=q89 qf))
 bro:∀a x,B a->(x∈Row e' a↔x∈Row eq a\/(a=ql/\((c1=true/\x=q89 z)\/(c2=true/\x=q89 qf))))
section
variable {D B : Nat → Prop} {e eq e' : List (List Ed)} {qf ql at_ z : Nat} {c1 c2 : Bool} {L : Lng}
def inB(e eq:List (List Ed))(s at_ qf:Nat)(c2:Bool)(L:Lng)(a:Nat):Lng:=cat (fun u=>pA e s u at_) (cat (q6J c2 L) (fun v=>pA eq qf v a))
theorem Ext.sound(h:Ext D B e eq e' qf ql at_ z c1 c2)(hL:∀w,pA eq qf w ql↔L w){s:Nat}(hs:D s){w:List Nat}{a:Nat}(hp:pA e' s w a):
  (D a/\(pA e s w a\/(a=z/\c1=true/\cat (fun u=>pA e s u at_) (many_NtA c2 L) w)))\/(B a/\inB e eq s at_ qf c2 L a w):=by
 induction hp with
 |nil=>exact .inl ⟨hs,.inl .nil⟩
 |free h0 k1 k2 k3 ih=>
  rename_i w a b x;rcases ih with⟨hd,ih⟩|⟨hb,ih⟩
  ·rcases(h.dro a x hd).1 k1 with k|⟨rfl,rfl⟩
   ·obtain⟨b',hb',hd'⟩:=h.din a x hd k
    obtain rfl:b'=b:=jo (hb'.symm.trans k3);rcases ih with ih|⟨rfl,hc,-⟩
    ·exact .inl ⟨hd',.inl (.free ih k k2 k3)⟩
    have:=(h.hz hc).2.1;unfold Row at this k;rw[this]at k;cases k
   obtain rfl:qf=b:=jo k3;rcases ih with ih|⟨rfl,hc,-⟩
   ·exact .inr ⟨h.hf,w,[],by simp,ih,[],[],rfl,.inl rfl,.nil⟩
   exact absurd rfl (h.hz hc).2.2
  rcases(h.bro a x hb).1 k1 with k|⟨rfl,⟨hc,rfl⟩|⟨hc,rfl⟩⟩
  ·obtain⟨b',hb',hd'⟩:=h.bin a x hb k
   obtain rfl:b'=b:=jo (hb'.symm.trans k3);obtain⟨u,v,rfl,hu,p,q,rfl,hp,hq⟩:=ih;exact .inr ⟨hd',u,p++q,by simp,hu,p,q,rfl,hp,.free hq k k2 k3⟩
  ·obtain rfl:z=b:=jo k3
   obtain⟨u,v,rfl,hu,p,q,rfl,hp,hq⟩:=ih;exact .inl ⟨(h.hz hc).1,.inr ⟨rfl,hc,u,p++q,rfl,hu,zV hp ((hL q).1 hq)⟩⟩
  obtain rfl:qf=b:=jo k3;obtain⟨u,v,rfl,hu,p,q,rfl,hp,hq⟩:=ih;exact .inr ⟨h.hf,u,p++q,rfl,hu,p++q,[],by simp,q1n (zV hp ((hL q).1 hq)) hc,.nil⟩
 |byte h0 k1 k2 k3 k4 ih=>
  rename_i w a b c x;rcases ih with⟨hd,ih⟩|⟨hb,ih⟩
  ·rcases(h.dro a x hd).1 k1 with k|⟨rfl,rfl⟩
   ·obtain⟨b',hb',hd'⟩:=h.din a x hd k
    obtain rfl:b'=b:=jo (hb'.symm.trans k4);rcases ih with ih|⟨rfl,hc,-⟩
    ·exact .inl ⟨hd',.inl (.byte ih k k2 k3 k4)⟩
    have:=(h.hz hc).2.1;unfold Row at this k;rw[this]at k;cases k
   cases k2
  rcases(h.bro a x hb).1 k1 with k|⟨rfl,⟨hc,rfl⟩|⟨hc,rfl⟩⟩
  ·obtain⟨b',hb',hd'⟩:=h.bin a x hb k
   obtain rfl:b'=b:=jo (hb'.symm.trans k4);obtain⟨u,v,rfl,hu,p,q,rfl,hp,hq⟩:=ih;exact .inr ⟨hd',u,p++(q++[c]),by simp,hu,p,q++[c],rfl,hp,.byte hq k k2 k3 k4⟩
  ·cases k2
  cases k2
theorem Ext.upD(h:Ext D B e eq e' qf ql at_ z c1 c2){s:Nat}(hs:D s){w:List Nat}{a:Nat}(hp:pA e s w a):D a/\pA e' s w a:=
 hp.sub h.din (fun a x hd hx=>(h.dro a x hd).2 (.inl hx)) hs
theorem Ext.upB(h:Ext D B e eq e' qf ql at_ z c1 c2){w:List Nat}{a:Nat}(hp:pA eq qf w a):B a/\pA e' qf w a:=
 hp.sub h.bin (fun a x hd hx=>(h.bro a x hd).2 (.inl hx)) h.hf
theorem Ext.loops(h:Ext D B e eq e' qf ql at_ z c1 c2)(hL:∀w,pA eq qf w ql↔L w)(hc:c2=true):∀(k:Nat) (w:List Nat),q9A L (k+1) w->pA e' qf w ql
 |0,w,hw=>by
  obtain⟨u,v,rfl,rfl,hv⟩:=hw;simpa using(h.upB ((hL v).2 hv)).2
 |k+1,w,⟨u,v,hw,hu,hv⟩=>by
  subst hw;have h1:=Ext.loops h hL hc k u hu;have h2:pA e' qf u qf:=.free h1 ((h.bro ql (q89 qf) h.hl).2 (.inr ⟨rfl,.inr ⟨hc,rfl⟩⟩)) rfl rfl;exact h2.trans (h.upB ((hL v).2 hv)).2
theorem Ext.many(h:Ext D B e eq e' qf ql at_ z c1 c2)(hL:∀w,pA eq qf w ql↔L w){w:List Nat}(hw:many_NtA c2 L w):pA e' qf w ql:=by
 unfold Cm.many_NtA at hw;by_cases hc:c2=true
 ·subst hc
  obtain⟨k,hk⟩:q8a L w:=by simpa using hw
  exact h.loops hL rfl k w hk
 have hc:c2=false:=by simpa using hc
 subst hc;exact(h.upB ((hL w).2 (by simpa using hw))).2
theorem Ext.enter(h:Ext D B e eq e' qf ql at_ z c1 c2)(hL:∀w,pA eq qf w ql↔L w){s:Nat}(hs:D s){w:List Nat}(hw:cat (fun u=>pA e s u at_) (Cm.many_NtA c2 L) w):pA e' s w ql:=by
 obtain⟨u,v,rfl,hu,hv⟩:=hw;have h1:=(h.upD hs hu).2;have h2:pA e' s u qf:=.free h1 ((h.dro at_ (q89 qf) h.hat).2 (.inr ⟨rfl,rfl⟩)) rfl rfl;exact h2.trans (h.many hL hv)
theorem Ext.closed(h:Ext D B e eq e' qf ql at_ z c1 c2):∀a x,(D a\/B a)->x∈Row e' a->∃b:Nat,x.to=b/\(D b\/B b):=by
 intro a x hab hx;rcases hab with hd|hb
 ·rcases(h.dro a x hd).1 hx with k|⟨rfl,rfl⟩
  ·obtain⟨b,h1,h2⟩:=h.din a x hd k;exact⟨b,h1,.inl h2⟩
  exact⟨qf,rfl,.inr h.hf⟩
 rcases(h.bro a x hb).1 hx with k|⟨rfl,⟨hc,rfl⟩|⟨hc,rfl⟩⟩
 ·obtain⟨b,h1,h2⟩:=h.bin a x hb k;exact⟨b,h1,.inr h2⟩
 ·exact⟨z,rfl,.inl (h.hz hc).1⟩
 exact⟨qf,rfl,.inr h.hf⟩
end
end Go.Cm
namespace Go.Cm
def q62:Lng:=fun _=>False
def q8n(Ls:List Lng):Nat->Lng
 |0=>eps
 |i+1=>cat (q8n Ls i) (Ls.getD i q62)
def q9R(Ls:List Lng)(i:Nat):Lng:=fun w=>∃j,j<i/\Ls.getD j q62 w
def wE(lo hi:Int)(L:Lng):Lng:=fun w=>∃k:Nat,lo<=k/\(hi<0\/(k:Int)<=hi)/\q9A L k w
def q9S(x:Nd):Lng:=fun w=>∃c,w=[c]/\tI (q2h x 0) c=true
def q8o(x:Nd)(Ls:List Lng):Lng:=
 if x.kd=1 then q9S x else if x.kd=2 then eps else if x.kd=8 then wE x.lo x.hi (Ls.getD 0 q62)
 else if x.kd=5 then wE 0 (-1) (Ls.getD 0 q62)else if x.kd=6 then wE 1 (-1) (Ls.getD 0 q62)else if x.kd=7 then wE 0 1 (Ls.getD 0 q62)
 else if x.kd=3 then q8n Ls Ls.length else q9R Ls Ls.length
def q4O:Fo->List Lng
 |.nil=>[]
 |.cons x k r=>q8o x (q4O k)::q4O r
def WQ(z:Int):Prop:=0<=z/\z<18446744073709551616
def EdQ(x:Ed):Prop:=(x.free=true->x.a=0/\x.b=0/\x.c=0/\x.d=0)/\(WQ x.a/\WQ x.b/\WQ x.c/\WQ x.d)
structure q6K(s:St)(y:List Pc×St)(Ls:List Lng)(bd:Nat->Nat):Prop where
 len:y.1.length=Ls.length
 b0:bd 0=s.e.length
 bc:bd Ls.length=y.2.e.length
 mono:∀i,i<Ls.length->bd i<=bd (i+1)
 old:∀a,a<s.e.length->Row y.2.e a=Row s.e a
 hf:∀i,i<Ls.length->bd i<=(y.1.getD i zP).f/\(y.1.getD i zP).f<bd (i+1)
 hl:∀i,i<Ls.length->bd i<=(y.1.getD i zP).l/\(y.1.getD i zP).l<bd (i+1)
 nol:∀i,i<Ls.length->Row y.2.e (y.1.getD i zP).l=[]
 inn:∀i,i<Ls.length->∀a x,bd i<=a->a<bd (i+1)->x∈Row y.2.e a->∃b:Nat,x.to=b/\bd i<=b/\b<bd (i+1)
 edq:∀a x,s.e.length<=a->x∈Row y.2.e a->EdQ x
 lang:∀i,i<Ls.length->∀w,pA y.2.e (y.1.getD i zP).f w (y.1.getD i zP).l↔Ls.getD i q62 w
 rul:y.2.r=s.r++List.replicate (y.2.e.length-s.e.length) (-1)
theorem q6K.mono' {s : St} {y : List Pc × St} {Ls : List Lng} {bd : Nat → Nat} (h : q6K s y Ls bd) : ∀ i j, i ≤ j → j ≤ Ls.length → bd i ≤ bd j := by
  intro i j hij hj
  induction j with
  | zero => obtain rfl : i = 0 := by omega
            exact qb _
  | succ j ih =>
    rcases Nat.eq_or_lt_of_le hij with rfl | h1
    · exact qb _
    · exact qc (ih (by omega) (by omega)) (h.mono j (by omega))
end Go.Cm
namespace Go.Cm
section
variable {s : St} {y : List Pc × St} {Ls : List Lng} {bd : Nat → Nat}
theorem q6K.blk(h:q6K s y Ls bd){a:Nat}:∀i,i<=Ls.length->bd 0<=a->a<bd i->∃j,j<i/\bd j<=a/\a<bd (j+1)
 |0,_,h1,h2=>by omega
 |i+1,hi,h1,h2=>by
  by_cases h3:a<bd i
  ·obtain⟨j,hj,h4⟩:=q6K.blk h i (by omega) h1 h3
   exact⟨j,by omega,h4⟩
  exact⟨i,by omega,by omega,h2⟩
theorem q6K.cls(h:q6K s y Ls bd){i:Nat}(hi:i<=Ls.length){a:Nat}{x:Ed}(h1:bd 0<=a)(h2:a<bd i)(hx:x∈Row y.2.e a):∃b:Nat,x.to=b/\bd 0<=b/\b<bd i:=by
 obtain⟨j,hj,h3,h4⟩:=h.blk i hi h1 h2;obtain⟨b,h5,h6,h7⟩:=h.inn j (by omega) a x h3 h4 hx;have:=h.mono' 0 j (by omega) (by omega);have:=h.mono' (j+1) i (by omega) hi;exact⟨b,h5,by omega,by omega⟩
end
end Go.Cm
namespace Go.Cm
open Go.RowKit Go.Proofs
theorem q8s{w:World}:Calls prog 166 #[] w fun e w'=>∃S,e=.returned (.pointer (some ⟨w.heap.size,0,none⟩))/\MkT w' S w.heap.size (w.heap.size+1) ⟨[],[]⟩ 0/\Below w.heap.size w w'/\(∀k,S k->w.heap.size<=k):=by
 go_enter func166,ntmps166;go_wp2;go_ret;have hb1:=aA w (.cells #[.slice none 0 0,.int .i64 0,.slice none 0 0,stV (w.heap.size+1),ffV (w.heap.size+1)] 219);have hb2:=aA (w.alloc (.cells #[.slice none 0 0,.int .i64 0,.slice none 0 0,stV (w.heap.size+1),ffV (w.heap.size+1)] 219)) (.cells #[.pointer (some ⟨w.heap.size,0,none⟩)] 215);refine⟨MkS w.heap.size (.slice none 0 0) (.slice none 0 0) [],rfl,⟨.slice none 0 0,[],.slice none 0 0,⟨?_,?_,?_,Own.nil _ _ _,rfl,fun i hi=>absurd hi (qz i),Own.nil _ _ _,?_⟩,rfl⟩,hb1.trans (hb2.mono (by simp)),?_⟩
 ·have h:=bU w 0 #[.slice none 0 0,.int .i64 0,.slice none 0 0,stV (w.heap.size+1),ffV (w.heap.size+1)] 219 (by simp) (qd _)
  have h2:=h.up hb2;simpa[stV,ffV]using h2
 ·have h:(w.alloc (.cells #[.slice none 0 0,.int .i64 0,.slice none 0 0,stV (w.heap.size+1),ffV (w.heap.size+1)] 219)).heap.size=w.heap.size+1:=by simp
  have h2:=World.cell?_alloc_new (w.alloc (.cells #[.slice none 0 0,.int .i64 0,.slice none 0 0,stV (w.heap.size+1),ffV (w.heap.size+1)] 219)) #[.pointer (some ⟨w.heap.size,0,none⟩)] 215 0;rw[h]at h2;exact h2
 ·simp
 ·intro i j k hi hj
  have key:∀i:Nat,(mkL (w.heap.size+1) w.heap.size (.slice none 0 0) (.slice none 0 0) [])[i]? =some (some k)->(i=0/\k=w.heap.size+1)\/(i=1/\k=w.heap.size):=fun i h=>by
   rcases i with _|_|_|_|i
   ·simp[mkL]at h;exact .inl ⟨rfl,h.symm⟩
   ·simp[mkL]at h;exact .inr ⟨rfl,h.symm⟩
   ·simp[mkL,Value.ownBlock]at h
   ·simp[mkL,Value.ownBlock]at h
   simp[mkL]at h
  rcases key i hi with⟨h1,h2⟩|⟨h1,h2⟩<;>rcases key j hj with⟨h3,h4⟩|⟨h3,h4⟩<;>omega
 rintro k (rfl|h|h|⟨i,hi,-⟩)
 ·exact qb _
 ·cases h
 ·cases h
 exact absurd hi (qz i)
def uC(w:World)(v:Value)(ll:List (List Ed)):Prop:=∃vs,Sl w v vs/\vs.length=ll.length/\∀i,i<ll.length->SlK 6 w (vs.getD i undef) ((ll.getD i []).map edC)
theorem uC.up{w w':World}{v:Value}{ll:List (List Ed)}(h:uC w v ll)(hb:Below w.heap.size w w'):uC w' v ll:=by
 obtain⟨vs,h1,h2,h3⟩:=h;exact⟨vs,h1.up hb,h2,fun i hi=>(h3 i hi).up hb⟩
def zW(w:World)(A:Array Value)(e:List (List Ed))(F:Int)(r:List Int):Prop:=∃ve vr,A=#[ve,.int .i64 F,vr]/\uC w ve e/\eE w vr r
theorem zW.up{w w':World}{A:Array Value}{e:List (List Ed)}{F:Int}{r:List Int}(h:zW w A e F r)(hb:Below w.heap.size w w'):zW w' A e F r:=by
 obtain⟨ve,vr,h1,h2,h3⟩:=h;exact⟨ve,vr,h1,h2.up hb,h3.up hb⟩
theorem Mk.nfa{w:World}{g q:Nat}{ve:Value}{vs:List Value}{vr:Value}{ll:List (List Ed)}{rl:List Int}{F:Int}(h:Mk w g q ve vs vr ll rl F):zW w #[ve,.int .i64 F,vr] ll F rl:=
 ⟨ve,vr,rfl,⟨vs,h.outer.sl,h.len,fun i hi=>(h.rows i hi).sl⟩,h.rules.sl⟩
theorem q2C{w:World}{v:Value}{l:List Nd}(h:cB w v l)(hp:0<l.length):∃b,eO w b v l:=by
 have h0:=h;obtain⟨oa,cap,b,off,hv,hd,hc⟩:=h.open;obtain rfl:=hd.hat hp;exact⟨b,h0,by rw[hv];rfl,hp,by rw[hv];rfl⟩
theorem q2D(ve vr:Value)(F:Int)(h1:ve.oneCell'=true)(h2:vr.oneCell'=true):∀u∈(#[ve,.int .i64 F,vr]:Array Value).toList,u.oneCell'=true:=by
 intro u hu;simp at hu;rcases hu with rfl|rfl|rfl
 ·exact h1
 ·rfl
 exact h2
theorem MkW.f1{w:World}{S:Nat->Prop}{g q:Nat}{ll:List (List Ed)}{rl:List Int}{F:Int}(h:MkW w S g q ll rl F):w.cell? ⟨g,1,none⟩=some (.int .i64 F):=by
 obtain⟨ve,vs,vr,h1,rfl⟩:=h;exact h1.c1
theorem mY{w:World}{B E:Nat}{v:Value}{xs:List Value}(h:Own w B E v xs):v.oneCell'=true:=by
 rcases h.1.2 with⟨rfl,_⟩|⟨g,cap,cur,rfl,_⟩<;>rfl
theorem q08{w:World}{p:Nat}{C:Array Value}{xs:List Value}(h:Own w 0 209 (.slice (some ⟨p,0,none⟩) 3 3) (C.toList++xs.drop C.size))(hs:C.size=3:=by rfl):(loadVar 209 ⟨p,0,none⟩).run prog w=.ok (.agg C) w:=
 fZ w p 0 3 209 C _ (fun c hc=>by
  rw[qE,h.cell (by simp;omega),qq,qS (by simp;omega)];simp[qO]) hs underlying209 rfl (by kernel_rfl)
theorem Mk.nfaKeep{w w':World}{g q:Nat}{ve:Value}{vs:List Value}{vr:Value}{ll:List (List Ed)}{rl:List Int}{F:Int}(h:Mk w g q ve vs vr ll rl F){p:Nat}(hg:w.grownBy w' (some p))(hp:∀k,MkS g ve vr vs k->p<k)(hq:p<q):zW w' #[ve,.int .i64 F,vr] ll F rl:=
 (h.keep hg (fun j k hj e=>by
  have e2:=qo e;rcases jD j with h0|h0
  ·subst h0
   have:q=k:=qo (qo hj);omega
  have hk:MkS g ve vr vs k:=by
   rcases j with _|_|_|_|j
   ·omega
   ·exact .inl (qo (qo hj)).symm
   ·exact .inr (.inl (by simpa[mkL]using hj))
   ·exact .inr (.inr (.inl (by simpa[mkL]using hj)))
   by_cases hjl:j<vs.length
   ·rw[nX _ _ _ _ _ j hjl]at hj
    exact .inr (.inr (.inr ⟨j,hjl,qo hj⟩))
   simp[mkL,qM (show vs.length<=j by omega)]at hj
  have:=hp k hk;omega)).nfa
theorem q4T{w:World}{v:Value}{ll:List (List Nd)}(h:gW w v ll):
  Calls prog 164 #[v] w fun e w'=>∃A,e=.returned (.tuple #[.agg A,.int .i64 (rH ll)])/\(rH ll=0->zW w' A (mkS ll ll.length).e 0 (mkS ll ll.length).r)/\(rH ll≠0->A=#[.slice none 0 0,.int .i64 0,.slice none 0 0])/\Below w.heap.size w w':=by
 have hA:=aA w (.cells #[.slice none 0 0,.int .i64 0,.slice none 0 0] 209);have HMY:=qa (qaK (h.up hA));have HBX:=qa (by simpa using bU w 0 #[.slice none 0 0,.int .i64 0,.slice none 0 0] 209 (by simp) (qd _):Own (w.alloc (.cells #[.slice none 0 0,.int .i64 0,.slice none 0 0] 209)) 0 209 (.slice (some ⟨w.heap.size,0,none⟩) 3 3) [.slice none 0 0,.int .i64 0,.slice none 0 0]);have HTR:=qa h;obtain⟨oa,cap,b,off,rfl,hd,hc⟩:=h.open;have hix:=fN hd;have hm:=hd.len;have HB:=qa hd.hblk;have HC:=qa hc;obtain⟨R,hR⟩:∃R,R=rH ll:=⟨_,rfl⟩;rw[<-hR]at HMY⊢;have HR:=qa hR;clear h hd hc hR;have hSZ:(w.alloc (.cells #[.slice none 0 0,.int .i64 0,.slice none 0 0] 209)).heap.size=w.heap.size+1:=by simp
 by_cases h0:R=0
 ·have hbe:(R==0)=true:=by simpa using h0
  have HR0:=qa h0
  have HCK:Hid ((∀l∈ll,Chk l)/\1+(ll.map iH).sum<=3000/\ll.length<=32):=qa (by
   have h1:=HR.o;rw[h0]at h1;unfold rH at h1;by_cases c1:ll.length=0
   ·rw[qt c1]at h1;cases h1
   rw[qr c1]at h1;by_cases c2:32<ll.length
   ·rw[qt c2]at h1;cases h1
   rw[qr c2]at h1;by_cases c3:∀l∈ll,Chk l
   ·rw[qr (fun h=>h c3)]at h1
    by_cases c4:3000<1+(ll.map iH).sum
    ·rw[qt c4]at h1;cases h1
    exact⟨c3,by omega,by omega⟩
   rw[qt c3]at h1;cases h1)
  have HMO:=qa (fun i hi=>q6I ll HCK.o.1 HCK.o.2.1 i hi);clear h0;go_enter func164,ntmps164
  go_upto_region 4 with((with_reducible go_at_call 165);refine HMY.o.mono ?_;rintro en w1 ⟨rfl,x1,rfl⟩)
  have HW1:=qa (kK hA x1);have qc0:=qa (HBX.o.up (aD _ x1));have qc3:=iT (w.alloc (.cells #[.slice none 0 0,.int .i64 0,.slice none 0 0] 209)) x1;rw[hSZ]at qc3;clear HMY HBX hA hSZ;generalize ext (w.alloc (.cells #[.slice none 0 0,.int .i64 0,.slice none 0 0] 209)) x1=w1 at*;have HST:=qa (q8s (w:=w1));generalize hg:w1.heap.size=g at HST;have HGE:=qa hg;have hgw:w.heap.size+1<=g:=by omega
  clear hg qc3
  go_upto_region 6 with(first|((with_reducible go_at_call 166);refine HST.o.mono ?_;rintro en w2 ⟨S2,rfl,hm2,hb2,hS2⟩;have HM2:=qa hm2;have HB2:=qa hb2;have HS2:=qa hS2;(have hc3:=hm2.f3);(have hgl:=hm2.glt);clear hm2 hb2 hS2)|((with_reducible go_at_call 169);refine(q2x HM2.o (by simp) (by simp)).mono ?_;rintro en w3 ⟨rfl,S3,hm3,hg3⟩;obtain⟨ve,vz,vr,hmk,hS3⟩:=hm3;have HMK:=qa hmk;have HG3:=qa hg3;(have hc1:=hmk.c1);(have hf1:=hmk.f 1);(have qdk:=hmk.lt);clear hmk hg3))
  have hSF:=HMK.o.setF 0;rw[<-hS3]at hSF
  have HW4:Hid (Below w.heap.size w (w3.setCell ⟨g,1,none⟩ (.int .i64 0))):=qa (by
   have e1:Below w.heap.size w w2:=HW1.o.trans (HB2.o.mono (by have:=HGE.o;omega));have e2:=(HG3.o.trans hSF.2).below (n:=w.heap.size) e1.size (fun k hk=>by have:=HS2.o k hk;omega);exact e1.trans e2)
  have HM4:Hid (MkT (w3.setCell ⟨g,1,none⟩ (.int .i64 0)) S3 g (g+1) (mkS ll 0) 0):=qa ⟨ve,vz,vr,hSF.1,hS3⟩
  have HS3:Hid (∀k,S3 k->w.heap.size+1<=k):=qa (fun k hk=>by
   rcases HG3.o.sub k hk with h|h
   ·have:=HS2.o k h;omega
   have:=HB2.o.size;have:=HGE.o;omega)
  have qbQ:Hid (Own (w3.setCell ⟨g,1,none⟩ (.int .i64 0)) 0 209 (.slice (some ⟨w.heap.size,0,none⟩) 3 3) [.slice none 0 0,.int .i64 0,.slice none 0 0]):=qa (by
   refine(HG3.o.trans hSF.2).own (qc0.o.up (HB2.o.mono (by have:=HGE.o;omega))) (fun k hk e=>?_);have:=HS2.o k e;have:w.heap.size=k:=qo hk;omega)
  clear HM2 HB2 HS2 hc3 hgl HMK HG3 hc1 hf1 qdk hSF hS3 HW1 qc0 HST HGE;generalize w3.setCell ⟨g,1,none⟩ (.int .i64 0)=w4 at*;go_wp2
  go_loopg [27] (ll.length) (fun gk iv wr=>∃(i:Nat) (Sr:Nat->Prop),iv=.int .i64 i/\i<=ll.length/\MkT wr Sr g (g+1) (mkS ll i) 0/\Below w.heap.size w wr/\(∀k,Sr k->w.heap.size+1<=k)/\Own wr 0 209 (.slice (some ⟨w.heap.size,0,none⟩) 3 3) [.slice none 0 0,.int .i64 0,.slice none 0 0]/\gk=ll.length-i)
  case atStart=>exact⟨0,S3,rfl,qd _,HM4.o,HW4.o,HS3.o,qbQ.o,rfl⟩
  case round=>
   obtain⟨i,Sr,rfl,hi,hm1,hw,hS,hbx,rfl⟩:=hrel;have HM1:=qa hm1;have HW:=qa hw;have HS1:=qa hS;have qc0:=qa hbx;clear hm1 hw hS hbx HM4 HW4 HS3 qbQ;by_cases hlt:i<ll.length
   ·obtain⟨u,hcu,hnu⟩:=HC.o i hlt
    have hb:=HB.o (by omega);have hcw:=(HW.o.cell (p:=⟨b,off+i,none⟩) hb).trans hcu;have hbw:b<wr.heap.size:=by have:=HW.o.size;omega
    have hck:=HCK.o.1 (ll.getD i []) (by simp[List.getD,hlt]);obtain⟨x,k,h1,h2,h3,h4,h5,h6,h7,h8⟩:=xH hck;rw[j4]at h1;rw[h1]at hnu;obtain⟨b1,hnb⟩:=q2C hnu (by simp);have hbl:=hnb.lt;have hmo:=HMO.o i hi;have qiG:=HMO.o (i+1) hlt;have q1:=hmo.len;have q2:=hmo.rlen;have q3:=hmo.tot;have hsl:=(F9 ll (i+1) hlt).2;have hs0:=(F9 ll i hi).1;have hss:=xK ll i hlt;rw[h8]at hss;have hz:=iW h4 (kR k h5).1;have qj7:=HCK.o.2
    have hu:pP x (gI k)=cZ x (usz k):=by
     have:=q5Z (f:=.cons x k .nil) ⟨h4,h5,trivial⟩ (by simp only[gI];omega);simpa[gI,usz]using this
    have hok:=mU x (fun s=>g8 k s) (usz k) (cnt k) h4 h2 (lR k h3 h5) (mkS ll i)
    have hms:mkS ll (i+1)=F8 (.cons x k .nil) i (mkS ll i):=by
     show F8 _ _ _=_;rw[xL ll i hlt,h1,iM x k h2 h3]
     rfl
    have k1:=hok.len;have k2:=hok.rlen;have k3:=hok.rng 0 (by omega);have k4:=hok.tot;simp only[j7]at k1 k2 k3 k4;obtain⟨Y,hY⟩:∃Y,Y=eF x (fun s=>g8 k s) (mkS ll i):=⟨_,rfl⟩;obtain⟨pf,hpf⟩:∃pf,pf=Y.1.f:=⟨_,rfl⟩;obtain⟨pl,hpl⟩:∃pl,pl=Y.1.l:=⟨_,rfl⟩;have qfP:=qa (q9U 400 wr Sr g (g+1) (mkS ll i) 0 u b1 x k h7 (hnb.up HW.o) (fun e=>by have:=HS1.o _ e;omega) h7 h2 h3 h4 h5 HM1.o (by omega) (by omega) (by omega) pf pl (by rw[<-hY];exact hpf) (by rw[<-hY];exact hpl));rw[<-hY]at qfP k1 k2 k3 k4;rw[<-hpf,<-hpl]at k3;have HMS:Hid (mkS ll (i+1)=⟨(d6 0 pf Y.2).e,(d6 0 pf Y.2).r.set pl (i:Int)⟩):=qa (by rw[hms];simp only[F8,q2v];rw[<-hY,hpf,hpl]);have HRB:Hid (Y.2.r.length<=5000):=qa (by omega);have HKK:Hid (0<Y.2.e.length/\pl<Y.2.r.length/\Y.2.e.length<=5000/\tot Y.2.e<=20000):=qa ⟨by omega,by omega,by omega,by omega⟩;have qkS:i<=32:=by omega
    clear hcu hck h1 h2 h3 h4 h5 h6 h7 h8 hnu hnb hbl hmo qiG q1 q2 q3 hsl hs0 hss hz qj7 hu hok hms k1 k2 k3 k4 hY hpf hpl
    go_wp2_with((with_reducible go_at_call 167);refine qfP.o.mono ?_;rintro en w5 ⟨rfl,S5,hm5,hg5⟩;have HM5:=qa hm5;have HG5:=qa hg5;clear hm5 hg5)
    have HM6:=qa (HM5.o.up (aA w5 (.cells #[.int .i64 (pf:Nat),.int .i64 (pl:Nat)] 221)));have HG6:=qa (HG5.o.up (aA w5 (.cells #[.int .i64 (pf:Nat),.int .i64 (pl:Nat)] 221)));have P86:Hid (LB (w5.alloc (.cells #[.int .i64 (pf:Nat),.int .i64 (pl:Nat)] 221)) S5 w5.heap.size pf pl):=qa ⟨fE w5 _ _,HM5.o.no (qb _)⟩;clear HM5 HG5 qfP;generalize w5.heap.size=p8 at*;generalize w5.alloc (.cells #[.int .i64 (pf:Nat),.int .i64 (pl:Nat)] 221)=w6 at*;have hc4:=HM6.o.f4;have hgl:=HM6.o.glt;have hc1:=HM6.o.f1;have P8a:=P86.o.box.c0;have P8l:=P86.o.box.lt;have HFR:=qa (nN (HM6.o.up (aR _)) 0 pf HKK.o.1 (by have:=HKK.o;omega) (by have:=HKK.o;omega));rw[show((0:Nat):Int)=0 from rfl]at HFR;go_wp2;refine aT [0,1,2,3,4,5,6,7,8,9,10] [] [11] (by kernel_rfl) (by kernel_rfl) ?_;simp only[pk]
    repeat(go_big_quiet_step (fail))
    refine wpQuiet_nil ?_;unfold aG;unfold aG
    go_wp2_with((with_reducible go_at_call 170);refine HFR.o.mono ?_;rintro en w7 ⟨rfl,S7,hm,hg⟩;have HM7:=qa hm;have HG7:=qa ((HG6.o.up (aR _)).trans hg);have P87:=qa ((P86.o.up (aR _)).gw hg);clear hm hg)
    refine⟨trivial,?_⟩;unfold aG;clear HM6 HG6 P86 hc4 hgl hc1 P8a P8l HFR;obtain⟨ve,vz,vr,hmk,hS7⟩:=HM7.o;have hpl:=HKK.o.2.1;have hrl:(ints (d6 0 pf Y.2).r).length=Y.2.r.length:=by simp
    obtain⟨orr,cr,gr,hvr,hdr,-,hcr,hfr,-⟩:=hmk.rules.cases;rw[hrl]at hvr hdr hcr hfr;have hor:=hdr.hat (by omega);subst hor;subst hvr;have qcM:=fun(W:World)=>aU (P:=prog) 39 3 underlying39 (by kernel_rfl) hdr W .i64 pl (by omega) (by omega);simp only[qA,qE]at qcM;have qld:=hcr pl hpl;have qkW:=hfr pl hpl;have qkT:=hdr.hblk (by omega);have hc2:=hmk.c2;have hgl:=hmk.lt;have P8a:=P87.o.box.c1;have P8l:=P87.o.box.lt;have HSR:=qa (hmk.setRule pl (i:Int));have hrb:Y.2.r.length<=100000:=by have:=hdr.hsml;have:=HRB.o;omega
    clear hmk hdr hcr hfr hrl hpl;go_wp2;refine aT [0,1,2,3,4,5,6,7,8] [] [9] (by kernel_rfl) (by kernel_rfl) ?_;simp only[pk]
    repeat(go_big_quiet_step (fail))
    refine wpQuiet_nil ?_;unfold aG;unfold aG;go_wp2;refine⟨trivial,?_⟩;unfold aG;go_wp2
    go_roundg (ll.length-(i+1))
    case measure=>omega
    case rel=>
     have hgz:Gw Sr wr S7 (w7.setCell ⟨gr,pl,none⟩ (.int .i64 (i:Int))).drew:=(HG7.o.trans (by rw[hS7];exact HSR.o.2)).up (aR _);have hbz:=hgz.below (n:=w.heap.size) HW.o.size (fun k hk=>by have:=HS1.o k hk;omega);refine⟨i+1,S7,by go_num,by omega,?_,HW.o.trans hbz,fun k hk=>?_,?_,rfl⟩
     ·rw[HMS.o]
      exact MkW.up ⟨_,_,_,HSR.o.1,hS7⟩ (aR _)
     ·rcases hgz.sub k hk with h|h
      ·exact HS1.o k h
      have:=qc0.o.blk.2;omega
     exact hgz.own qc0.o (fun k hk e=>by have:=HS1.o k e;have:w.heap.size=k:=qo hk;omega)
   have hie:i=ll.length:=by omega
   subst hie;obtain⟨ve,vz,vr,hmk,hS7⟩:=HM1.o;have HMK:=qa hmk
   have HCL:Hid (∀c,c<3->wr.cell? ⟨g,0+c,none⟩=some ((#[ve,.int .i64 0,vr]:Array Value).getD c undef)):=qa (fun c hcl=>by
    rw[qE];rcases(show c=0\/c=1\/c=2 by omega)with rfl|rfl|rfl
    ·exact hmk.c0
    ·exact hmk.c1
    exact hmk.c2)
   have HON:=qa (q2D ve vr 0 (mY hmk.outer) (mY hmk.rules));have hgl:=hmk.lt;clear hmk
   go_wp2_with(first|(refine aH rfl 209 _ rfl g 0 3 rfl _ _ HCL.o rfl underlying209 rfl (by kernel_rfl) ?_)|(refine bD rfl 209 _ _ rfl 0 209 w.heap.size 3 3 rfl #[ve,.int .i64 0,vr] rfl (by kernel_rfl) _ qc0.o (qb 3) HON.o ?_;intro wF hF hgF;have HF:=qa hF;have HGF:=qa hgF;clear hF hgF))
   refine aX rfl rfl rfl rfl (q08 HF.o) ?_;refine⟨#[ve,.int .i64 0,vr],by rw[HR0.o];rfl,fun _=>?_,fun h=>absurd HR0.o h,HW.o.grown HGF.o HW.o.size (fun j hj=>by cases hj;exact qb _)⟩;exact HMK.o.nfaKeep HGF.o (fun k hk=>by rw[<-hS7]at hk;have:=HS1.o k hk;omega) (by omega)
 have hbe:(R==0)=false:=by simpa using h0
 have HR0:=qa h0;clear h0;go_enter func164,ntmps164
 go_upto_region 3 with((with_reducible go_at_call 165);refine HMY.o.mono ?_;rintro en w1 ⟨rfl,x1,rfl⟩)
 have qc0:=qa (HBX.o.up (aD _ x1));have HW1:=qa (kK hA x1);generalize ext (w.alloc (.cells #[.slice none 0 0,.int .i64 0,.slice none 0 0] 209)) x1=w1 at*
 go_wp2_with(refine bD rfl 209 _ _ rfl 0 209 w.heap.size 3 3 rfl #[.slice none 0 0,.int .i64 0,.slice none 0 0] rfl (by kernel_rfl) _ qc0.o (qb 3) (q2D _ _ _ rfl rfl) ?_;intro wF hF hgF;have HF:=qa hF;have HGF:=qa hgF;clear hF hgF)
 refine aX rfl rfl rfl rfl (q08 HF.o) ?_;exact⟨_,rfl,fun h=>absurd h HR0.o,fun _=>rfl,HW1.o.grown HGF.o HW1.o.size (fun j hj=>by cases hj;exact qb _)⟩
def mk1(m:List Int)(s:Int):List Int:=if 0<=s/\s<m.length then m.set s.toNat 1 else m
theorem q1p(m:List Int)(s:Int):(mk1 m s).length=m.length:=by unfold mk1;split<;>simp
def sJ(n:Nat)(st:List Int):List Int:=st.foldl mk1 (List.replicate n 0)
def lG(m:List Int):List Nat:=(List.range m.length).filter fun i=>decide (0<m.getD i 0)
theorem q1q{α β:Type}(f:β->α->β)(b:β)(l:List α)(d:α)(j:Nat)(h:j<l.length):(l.take (j+1)).foldl f b=f ((l.take j).foldl f b) (l.getD j d):=by
 rw[qI h,qV];simp[List.getD,h]
theorem vR(l:List Int):∀m:List Int,(l.foldl mk1 m).length=m.length:=by
 induction l with
 |nil=>intro m;rfl
 |cons a l ih=>intro m;simp only[qH];rw[ih,q1p]
theorem uD(p:Nat->Bool)(j:Nat):(List.range (j+1)).filter p=(List.range j).filter p++(if p j then [j]else []):=by
 rw[jw,List.filter_append];by_cases h:p j<;>simp[h]
theorem q1r(p:Nat->Bool)(j:Nat):((List.range j).filter p).length<=j:=qc (jX _ _) (by simp)
theorem V9{w:World}{v:Value}{m:List Int}(h:eE w v m)(hm:m.length<=100000):
  Calls prog 208 #[v] w fun e w'=>∃u,e=.returned u/\Own w' w.heap.size 3 u (ints (nz (lG m)))/\Below w.heap.size w w':=by
 obtain⟨oa,cap,b,off,rfl,hd,hc⟩:=h.open;have hix:=fun(W:World) (i:Nat) (hi:i<m.length)=>aU (P:=prog) 39 3 underlying39 (by kernel_rfl) hd W .i64 i (by omega) (by omega);simp only[qA]at hix;have HB:=qa hd.hblk;have HC:=qa hc;obtain⟨n,hn⟩:∃n,n=m.length:=⟨_,rfl⟩;have HMN:Hid (lG m=(List.range n).filter fun i=>decide (0<m.getD i 0)):=qa (by rw[hn];rfl);rw[<-hn]at hix HB HC hm⊢;clear h hd hc hn;go_enter func208,ntmps208;go_wp2
 go_loopg [3,8] n (fun gk ov iv wr=>∃i:Nat,iv=.int .i64 i/\i<=n/\Own wr w.heap.size 3 ov (ints (nz ((List.range i).filter fun i=>decide (0<m.getD i 0))))/\Below w.heap.size w wr/\gk=n-i)
 case atStart=>exact⟨0,rfl,qd _,Own.nil _ _ _,qk _ _,rfl⟩
 case round=>
  obtain⟨i,rfl,hi,hown,qbe,rfl⟩:=hrel;have HO:=qa hown;have HW:=qa qbe;clear hown qbe;by_cases hlt:i<n
  ·have hcell:=(HW.o.cell (p:=⟨b,off+i,none⟩) (HB.o (by omega))).trans (HC.o i hlt)
   have hbw:b<wr.heap.size:=by have:=HW.o.size;have:=HB.o (by omega);omega
   have qbi:=fun W=>hix W i hlt;have HRS:=qa (uD (fun i=>decide (0<m.getD i 0)) i);have hfl:=q1r (fun i=>decide (0<m.getD i 0)) i;have hsz:=HW.o.size;obtain⟨x,hx⟩:∃x,x=m.getD i 0:=⟨_,rfl⟩;rw[<-hx]at hcell;have HX:=qa hx;clear hx;by_cases hp:0<x
   ·have HRT:Hid ((List.range (i+1)).filter (fun i=>decide (0<m.getD i 0))=(List.range i).filter (fun i=>decide (0<m.getD i 0))++[i]):=qa (by
     have hf:decide (0<m.getD i 0)=true:=by rw[<-HX.o];exact qw hp
     rw[HRS.o];simp only[hf,jG])
    generalize (List.range i).filter (fun i=>decide (0<m.getD i 0))=fl at*;have hlW:=aA wr (.cells #[.int .i64 (i:Int)] 3);have HLW:=qa hlW;clear hlW
    go_wp2_with(at_builtin;refine bM rfl (.tmp 15) (.tmp 17) 39 rfl w.heap.size 3 (.int .i64 0) 8 underlying39 (by kernel_rfl) rfl (by decide) u3 (ints (nz fl)) rfl (HO.o.up HLW.o) (.slice (some ⟨wr.heap.size,0,none⟩) 1 1) (ints (nz [i])) rfl (by simpa[ints,nz]using dY wr #[.int .i64 (i:Int)] 3 (by simp)) (N8 _) (by simp[nz];omega) (qc hsz HLW.o.size) ?_;intro v' w5 hown1 hg1 hk1;have HO1:=qa hown1;have HG1:=qa hg1;clear hown1 hg1 hk1)
    go_roundg (n-(i+1))
    case measure=>omega
    case rel=>
     refine⟨i+1,by go_num,by omega,?_,dR (HW.o.trans (HLW.o.mono hsz)) (qc hsz HLW.o.size) (HO.o.up HLW.o) HG1.o,rfl⟩;rw[HRT.o,N7,F4];exact HO1.o
   have HRT:Hid ((List.range (i+1)).filter (fun i=>decide (0<m.getD i 0))=(List.range i).filter (fun i=>decide (0<m.getD i 0))):=qa (by
    have hf:decide (0<m.getD i 0)=false:=by rw[<-HX.o];exact qu hp
    rw[HRS.o];simp only[hf,qP,jp,j4])
   go_wp2
   go_roundg (n-(i+1))
   case measure=>omega
   case rel=>exact⟨i+1,by go_num,by omega,by rw[HRT.o];exact HO.o,HW.o,rfl⟩
  have hie:i=n:=by omega
  subst hie;go_wp2;go_ret;exact⟨u3,rfl,by rw[HMN.o];exact HO.o,HW.o⟩
def eA:Ed:=⟨0,false,0,0,0,0⟩
def W0(n:Nat)(x:Ed):Bool:=decide (0<=x.to/\x.to<n)&&(!x.free||decide (x.a=0/\x.b=0/\x.c=0/\x.d=0))
def o4(n:Nat)(r:Int)(row:List Ed):Bool:=decide (-1<=r/\r<32)&&row.all (W0 n)
def N9(e:List (List Ed))(F:Int)(r:List Int):Bool:=decide (1<=e.length/\e.length<=3000/\r.length=e.length/\0<=F/\F<e.length)
def dZ(e:List (List Ed))(F:Int)(r:List Int):Bool:=N9 e F r&&(List.range e.length).all fun i=>o4 e.length (r.getD i 0) (e.getD i [])
theorem kY{e:List (List Ed)}{F:Int}{r:List Int}:dZ e F r=true↔N9 e F r=true/\∀i,i<e.length->o4 e.length (r.getD i 0) (e.getD i [])=true:=by
 unfold dZ;rw[qG,List.all_eq_true];simp only[a6]
theorem G2{n:Nat}{r:Int}{row:List Ed}:o4 n r row=true↔(-1<=r/\r<32)/\∀j,j<row.length->W0 n (row.getD j eA)=true:=by
 unfold o4;rw[qG,List.all_eq_true,jU];refine and_congr_right fun _=>⟨fun h j hj=>h _ (by simp[List.getD,hj]),fun h x hx=>?_⟩;obtain⟨j,hj,rfl⟩:=jg hx;have:=h j hj;simpa[List.getD,hj]using this
theorem uC.open{w:World}{v:Value}{ll:List (List Ed)}(h:uC w v ll):
  ∃oa cap b off,v=.slice oa ll.length cap/\Hd w oa ll.length cap b off/\∀i,i<ll.length->
   ∃oi ci bi fi,w.cell? ⟨b,off+i,none⟩=some (.slice oi (ll.getD i []).length ci)/\Hd w oi (ll.getD i []).length ci bi fi/\∀j,j<(ll.getD i []).length->∀c,c<6->w.cell? ⟨bi,fi+j*6+c,none⟩=some ((edC ((ll.getD i []).getD j eA)).getD c undef):=by
 obtain⟨vs,⟨oa,cap,b,off,rfl,hd,hc⟩,h2,h3⟩:=h;rw[h2]at hd hc⊢;refine⟨oa,cap,b,off,rfl,hd,fun i hi=>?_⟩;obtain⟨oi,ci,bi,fi,he,hdi,hci⟩:=h3 i hi;rw[qy]at he hdi hci;refine⟨oi,ci,bi,fi,by rw[hc i hi,he],hdi,fun j hj c hcl=>?_⟩;rw[hci j hj c hcl]
 have e1:((ll.getD i []).map edC).getD j []=edC ((ll.getD i []).getD j eA):=by
  generalize ll.getD i []=row at*;simp[List.getD,hj]
 rw[e1]
def edA(x:Ed):Array Value:=#[.int .i64 x.to,.bool x.free,.int .u64 x.a,.int .u64 x.b,.int .u64 x.c,.int .u64 x.d]
theorem G4(x:Ed)(c:Nat):(edC x).getD c undef=(edA x).getD c undef:=by unfold edC edA;simp[List.getD,qO]
theorem pB{w:World}{oa:Option Addr}{b off len cap:Nat}(h:Hd w oa len cap b off):
  ∀(W:World) (i:Nat),i<len->(Instr.indexAt 224 (.slice oa len cap) (.int .i64 i)).run prog W=.ok (.pointer (some ⟨b,off+i*6,none⟩)) W:=fun W i hi=>by
 have:=gY (P:=prog) 6 224 226 underlying224 (by kernel_rfl) h W .i64 i (by omega) (by omega);simpa using this
theorem sK{w:World}{oa:Option Addr}{b off len cap:Nat}(h:Hd w oa len cap b off):
  ∀(W:World) (i:Nat),i<len->(Instr.indexAt 207 (.slice oa len cap) (.int .i64 i)).run prog W=.ok (.pointer (some ⟨b,off+i,none⟩)) W:=fun W i hi=>by
 have:=aU (P:=prog) 207 224 underlying207 (by kernel_rfl) h W .i64 i (by omega) (by omega);simpa using this
theorem xQ{w:World}{oa:Option Addr}{b off len cap:Nat}(h:Hd w oa len cap b off):
  ∀(W:World) (i:Nat),i<len->(Instr.indexAt 39 (.slice oa len cap) (.int .i64 i)).run prog W=.ok (.pointer (some ⟨b,off+i,none⟩)) W:=fun W i hi=>by
 have:=aU (P:=prog) 39 3 underlying39 (by kernel_rfl) h W .i64 i (by omega) (by omega);simpa using this
theorem q2E{w:World}{A:Array Value}{e:List (List Ed)}{F:Int}{r:List Int}(h:zW w A e F r):
  Calls prog 202 #[.agg A] w fun en w'=>en=.returned (.bool (dZ e F r))/\∃x,w'=ext w x:=by
 obtain⟨ve,vr,rfl,he,hr⟩:=h;obtain⟨oe,ce,be,fe,rfl,hde,hce⟩:=he.open;obtain⟨orr,cr,br,fr,rfl,hdr,hcr⟩:=hr.open;have qc9:=sK hde;have qcM:=xQ hdr;have hme:=hde.len;have hmr:=hdr.len;have hbe:=hde.hblk;have hbr:=hdr.hblk;have HCE:=qa hce;have HCR:=qa hcr;have HIF:=qa (kY (e:=e) (F:=F) (r:=r));obtain⟨R,hR⟩:∃R,R=dZ e F r:=⟨_,rfl⟩;have HR:=qa hR;have HF0:Hid (N9 e F r=false->R=false):=qa (fun h=>by rw[hR];unfold dZ;rw[h];rfl);have HHD:Hid (N9 e F r=decide (1<=e.length/\e.length<=3000/\r.length=e.length/\0<=F/\F<e.length)):=qa rfl;have c1:=q2p;have g1:=mW;rw[<-hR];obtain⟨n,hn⟩:∃n,n=e.length:=⟨_,rfl⟩;obtain⟨m,hm⟩:∃m,m=r.length:=⟨_,rfl⟩;have HN:=qa hn;have HM:=qa hm;rw[<-hn]at qc9 hme hbe HCE⊢;rw[<-hm]at qcM hmr hbr HCR⊢;have hHD:=HHD.o;rw[<-hn,<-hm]at hHD;clear he hr hde hdr hce hcr hR hn hm HHD;by_cases hok:1<=n/\n<=3000/\m=n/\0<=F/\F<n
 ·obtain⟨k1,k2,k3,k4,k5⟩:=hok
  have HH:Hid (N9 e F r=true):=qa (by rw[hHD];simp;omega);subst k3
  have HFB:Hid (∀i,i<m->o4 m (r.getD i 0) (e.getD i [])=false->R=false):=qa (fun i hi hf=>by
   rw[HR.o];cases hq:dZ e F r with
   |false=>rfl
   |true=>have:=(HIF.o.1 hq).2 i (by rw[<-HN.o];exact hi);rw[<-HN.o,hf]at this;cases this)
  have HTB:Hid ((∀i,i<m->o4 m (r.getD i 0) (e.getD i [])=true)->R=true):=qa (fun h=>by
   rw[HR.o];exact HIF.o.2 ⟨HH.o,fun i hi=>by rw[<-HN.o]at hi⊢;exact h i hi⟩)
  have d1:decide ((m:Int)<1)=false:=by simp;omega
  have d2:decide ((3000:Int)<m)=false:=by simp;omega
  have d3:decide (F<0)=false:=by simp;omega
  have d4:decide ((m:Int)<=F)=false:=by simp;omega
  have qe7:=hbe (by omega);have qjf:=hbr (by omega);have HA:=qa (aA w (.cells #[.slice oe m ce,.int .i64 F,.slice orr m cr] 209));have hsz:(w.alloc (.cells #[.slice oe m ce,.int .i64 F,.slice orr m cr] 209)).heap.size=w.heap.size+1:=by simp
  have HB0:Hid ((w.alloc (.cells #[.slice oe m ce,.int .i64 F,.slice orr m cr] 209)).cell? ⟨w.heap.size,0,none⟩=some (.slice oe m ce)):=qa (by rw[World.cell?_alloc_new];rfl);have HB2:Hid ((w.alloc (.cells #[.slice oe m ce,.int .i64 F,.slice orr m cr] 209)).cell? ⟨w.heap.size,2,none⟩=some (.slice orr m cr)):=qa (by rw[World.cell?_alloc_new];rfl);clear hHD HF0 hbe hbr;go_enter func202,ntmps202;go_wp2;generalize w.alloc (.cells #[.slice oe m ce,.int .i64 F,.slice orr m cr] 209)=w1 at*;have qcV:w.heap.size<w1.heap.size:=by omega
  clear hsz
  go_loopg [38] m (fun gk iv wr=>∃i:Nat,iv=.int .i64 i/\i<=m/\(∀q,q<i->o4 m (r.getD q 0) (e.getD q [])=true)/\Below w1.heap.size w1 wr/\gk=m-i)
  case atStart=>exact⟨0,rfl,qd _,fun q hq=>absurd hq (qz q),qk _ _,rfl⟩
  case round=>
   obtain⟨i,rfl,hi,hall,qbe,rfl⟩:=hrel;have qcm:=qa hall;have HW:=qa qbe;have HWW:=qa (HA.o.trans (qbe.mono HA.o.size));clear hall qbe;have b0:=(HW.o.cell (p:=⟨w.heap.size,0,none⟩) qcV).trans HB0.o;have b2:=(HW.o.cell (p:=⟨w.heap.size,2,none⟩) qcV).trans HB2.o;have bl:w.heap.size<wr.heap.size:=by have:=HW.o.size;omega
   by_cases hlt:i<m
   ·obtain⟨oi,ci,bi,fi,hrow,hdi,hcell⟩:=HCE.o i hlt
    have hrow2:=(HWW.o.cell (p:=⟨be,fe+i,none⟩) qe7).trans hrow;have hri:=(HWW.o.cell (p:=⟨br,fr+i,none⟩) qjf).trans (HCR.o i hlt);have qcv:be<wr.heap.size:=by omega
    have qje:br<wr.heap.size:=by omega
    have qd1:=fun W=>qc9 W i hlt;have qiM:=fun W=>qcM W i hlt;have qbi:=pB hdi;have hbi:=hdi.hblk;have hmi:=hdi.len;have HCI:=qa hcell;have HRW:=qa (G2 (n:=m) (r:=r.getD i 0) (row:=e.getD i []));have HFI:=qa (HFB.o i hlt);obtain⟨row,hrw⟩:∃row,row=e.getD i []:=⟨_,rfl⟩;have HRO:=qa hrw;obtain⟨ri,hrr⟩:∃ri,ri=r.getD i 0:=⟨_,rfl⟩;have HRR:=qa hrr;rw[<-hrw]at hrow2 qbi hbi hmi HCI HRW HFI;rw[<-hrr]at hri HRW HFI;obtain⟨ln,hln⟩:∃ln,ln=row.length:=⟨_,rfl⟩;rw[<-hln]at hrow2 qbi hbi hmi HCI HRW;clear hrow hdi hcell hrw hrr hln;by_cases hr1:ri< -1
    ·exact ZmL3
    by_cases hr2:32<=ri
    ·exact ZmL3
    have f1:decide (ri< -1)=false:=by simp;omega
    have f2:decide ((32:Int)<=ri)=false:=by simp;omega
    have f3:decide ((31:Int)<ri)=false:=by simp;omega
    go_wp2;generalize wr=wo at*
    go_loopg [59] ln (fun gk jv wr=>∃j:Nat,jv=.int .i64 j/\j<=ln/\(∀q,q<j->W0 m (row.getD q eA)=true)/\Below w1.heap.size w1 wr/\gk=ln-j)
    case atStart=>exact⟨0,rfl,qd _,fun q hq=>absurd hq (qz q),HW.o,rfl⟩
    case round=>
     obtain⟨j,rfl,hj,qbG,qbe,rfl⟩:=hrel;have HAJ:=qa qbG;have HWQ:=qa qbe;have HWZ:=qa (HA.o.trans (qbe.mono HA.o.size));have z0:=(HWQ.o.cell (p:=⟨w.heap.size,0,none⟩) qcV).trans HB0.o;have z2:=(HWQ.o.cell (p:=⟨w.heap.size,2,none⟩) qcV).trans HB2.o;have zl:w.heap.size<wr.heap.size:=by have:=HWQ.o.size;omega
     obtain⟨oi2,ci2,bi2,fi2,hrow,-,-⟩:=HCE.o i hlt;have zrow:=(HWZ.o.cell (p:=⟨be,fe+i,none⟩) qe7).trans ((HWW.o.cell (p:=⟨be,fe+i,none⟩) qe7).symm.trans hrow2);have zber:be<wr.heap.size:=by omega
     clear qbG qbe hrow b0 b2 bl hrow2 hri qcv qje HW;by_cases qbj:j<ln
     ·obtain⟨ed,hed⟩:∃ed,ed=row.getD j eA:=⟨_,rfl⟩
      have HED:=qa hed;have qcu:=hbi (by omega)
      have HCD:Hid (∀c,c<6->wr.cell? ⟨bi,fi+j*6+c,none⟩=some ((edA ed).getD c undef)):=qa (fun c hcl=>by
       rw[HWZ.o.cell (p:=⟨bi,fi+j*6+c,none⟩) qcu,HCI.o j qbj c hcl,G4,hed])
      obtain⟨tq,fr',a,b,c,d⟩:=ed;unfold edA at HCD;simp only at HCD;have qcq:=fun W=>qbi W j qbj
      have HFE:Hid (W0 m ⟨tq,fr',a,b,c,d⟩=false->R=false):=qa (fun hf=>HFI.o (by
       cases hq:o4 m ri row with
       |false=>rfl
       |true=>have:=(HRW.o.1 hq).2 j qbj;rw[<-HED.o,hf]at this;cases this))
      have HB6:=aA wr (.cells #[.int .i64 tq,.bool fr',.int .u64 a,.int .u64 b,.int .u64 c,.int .u64 d] 226);have HB7:=qa (HWZ.o.trans (HB6.mono HWZ.o.size));have HB8:=qa (HWQ.o.trans (HB6.mono HWQ.o.size));clear hed HB6;by_cases e1:tq<0
      ·exact ZmL1
      by_cases e2:(m:Int)<=tq
      ·exact ZmL1
      cases fr' with
      |false=>
       have HOK:Hid (W0 m ⟨tq,false,a,b,c,d⟩=true):=qa (by unfold W0;simp;omega)
       exact ZmL0
      |true=>
       by_cases e3:a=0/\b=0/\c=0/\d=0
       ·obtain⟨rfl,rfl,rfl,rfl⟩:=e3
        have HOK:Hid (W0 m ⟨tq,true,0,0,0,0⟩=true):=qa (by unfold W0;simp;omega)
        exact ZmL0
       have HV:=qa (HFE.o (by unfold W0;simp;omega));have e4:(!decide (a=0/\b=0/\c=0/\d=0))=true:=by rw[qu e3];rfl
       have c2:∀W,(binOp .neq 63 (.agg #[.int .u64 a,.int .u64 b,.int .u64 c,.int .u64 d]) (.agg #[.int .u64 0,.int .u64 0,.int .u64 0,.int .u64 0])).run prog W=.ok (.bool true) W:=fun W=>by rw[q2p W a b c d 0 0 0 0,e4]
       clear e3 e4 c1
       go_wp2_with(refine aH rfl 226 _ rfl bi (fi+j*6) 6 rfl _ _ HCD.o rfl underlying226 rfl (by kernel_rfl) ?_)
       all_goals(go_ret;exact⟨by rw[HV.o];rfl,aI HB7.o⟩)
     have HRT:Hid (o4 m ri row=true):=qa (HRW.o.2 ⟨⟨by omega,by omega⟩,fun q hq=>HAJ.o q (by omega)⟩);go_wp2
     go_roundg (m-(i+1))
     case measure=>omega
     case rel=>
      refine⟨i+1,by go_num,by omega,fun q hq=>?_,HWQ.o,rfl⟩;by_cases hqi:q=i
      ·rw[hqi,<-HRO.o,<-HRR.o];exact HRT.o
      exact qcm.o q (by omega)
   have HV:=qa (HTB.o (fun q hq=>qcm.o q (by omega)));go_wp2;go_ret;exact⟨by rw[HV.o];rfl,aI HWW.o⟩
 have HV:=qa (HF0.o (by rw[hHD];simp;omega));clear hHD;have HA:=qa (aA w (.cells #[.slice oe n ce,.int .i64 F,.slice orr m cr] 209));go_enter func202,ntmps202
 go_upto_region 4 with fail
 all_goals first
  |(go_ret;exact⟨by rw[HV.o];rfl,aI HA.o⟩)
  |(exfalso;omega)
  |(exfalso;simp_all;omega)
def zX(e:List (List Ed))(a b:Nat):Prop:=∃x∈e.getD a [],x.free=true/\x.to=b
inductive Rch(e:List (List Ed))(S:Nat->Prop):Nat->Prop
 |base {b:Nat}:S b->Rch e S b
 |step {a b:Nat}:Rch e S a->zX e a b->Rch e S b
noncomputable def nO(n:Nat)(P:Nat->Prop):List Nat:=(List.range n).filter fun i=>@decide (P i) (Classical.propDecidable _)
theorem gC{n:Nat}{P:Nat->Prop}{i:Nat}:i∈nO n P↔i<n/\P i:=by simp[nO]
theorem q1s{n:Nat}{P Q:Nat->Prop}(h:∀i,i<n->(P i↔Q i)):nO n P=nO n Q:=by
 unfold nO;refine List.filter_congr fun i hi=>?_;rw[a6]at hi;by_cases hp:P i
 ·rw[@qw (P i) (Classical.propDecidable _) hp,@qw (Q i) (Classical.propDecidable _) ((h i hi).1 hp)]
 rw[@qu (P i) (Classical.propDecidable _) hp,@qu (Q i) (Classical.propDecidable _) (fun q=>hp ((h i hi).2 q))]
theorem q09{n:Nat}{P:Nat->Prop}(p:Nat->Bool)(h:∀i,i<n->(P i↔p i=true)):nO n P=(List.range n).filter p:=by
 unfold nO;refine List.filter_congr fun i hi=>?_;rw[a6]at hi;by_cases hp:P i
 ·rw[@qw (P i) (Classical.propDecidable _) hp,(h i hi).1 hp]
 rw[@qu (P i) (Classical.propDecidable _) hp];cases hq:p i with
 |false=>rfl
 |true=>exact absurd ((h i hi).2 hq) hp
theorem q0a(n:Nat)(P:Nat->Prop):(nO n P).length<=n:=qc (jX _ _) (by simp)
theorem Rch.mono{e:List (List Ed)}{S T:Nat->Prop}(h:∀i,S i->T i){b:Nat}(hb:Rch e S b):Rch e T b:=by
 induction hb with
 |base h1=>exact .base (h _ h1)
 |step _ h2 ih=>exact .step ih h2
theorem Rch.least{e:List (List Ed)}{S M:Nat->Prop}(h:∀i,S i->M i)(hc:∀a b,M a->zX e a b->M b){b:Nat}(hb:Rch e S b):M b:=by
 induction hb with
 |base h1=>exact h _ h1
 |step _ h2 ih=>exact hc _ _ ih h2
def On(m:List Int)(i:Nat):Prop:=m.getD i 0=1
structure kL(n:Nat)(m:List Int):Prop where
 len:m.length=n
 bit:∀i,m.getD i 0=0\/m.getD i 0=1
theorem On.lt{n:Nat}{m:List Int}(hb:kL n m){i:Nat}(h:On m i):i<n:=by
 apply qh;intro hn;unfold On at h;rw[qq,qM (by have:=hb.len;omega)]at h;cases h
theorem q0b{n:Nat}{m:List Int}(hb:kL n m){t:Nat}(ht:t<n)(i:Nat):On (m.set t 1) i↔i=t\/On m i:=by
 unfold On;have:=hb.len;by_cases h:i=t
 ·subst h
  simp[List.getD,show i<m.length by omega]
 simp[List.getD,h,show t≠i from fun e=>h e.symm]
theorem wH{n:Nat}{m:List Int}(hb:kL n m)(t:Nat):kL n (m.set t 1):=⟨by simpa using hb.len,fun i=>by
 simp only[qq,jN];split
 ·split
  ·exact .inr rfl
  exact .inl rfl
 have:=hb.bit i;simpa only[qq]using this⟩
theorem xR(n:Nat):kL n (List.replicate n 0):=⟨by simp,fun i=>.inl (by
 simp only[qq,jQ];split<;>rfl)⟩
theorem q2F(n i:Nat):¬On (List.replicate n 0) i:=by
 unfold On;simp only[qq,jQ];split<;>simp
theorem zY{n:Nat}{m:List Int}(hb:kL n m){t:Nat}(ht:t<n)(h0:m.getD t 0=0):(m.set t 1).count 0+1=m.count 0:=by
 have hl:=hb.len
 have h1:m[t]'(by omega)=0:=by
  rw[qq,qv (by omega)]at h0;simpa using h0
 rw[List.count_set (by omega),h1];have:0<m.count 0:=List.count_pos_iff.2 (h1▸ji _);simp;omega
theorem sL{n:Nat}{m:List Int}(hb:kL n m):lG m=nO n (On m):=by
 rw[q09 (fun i=>decide (0<m.getD i 0))]
 ·unfold lG;rw[hb.len]
 intro i _;unfold On;rcases hb.bit i with h|h<;>rw[h]<;>decide
structure SpI(e:List (List Ed))(n:Nat)(S:Nat->Prop)(m:List Int)(lf:List Nat)(X:Nat->Prop):Prop where
 bits:kL n m
 base:∀i,S i->On m i
 rch:∀i,On m i->Rch e S i
 clo:∀a,On m a->a∈lf\/X a\/∀b,zX e a b->On m b
 lfm:∀a∈lf,On m a
 cnt:m.count 0+lf.length<=n
theorem q4U{e:List (List Ed)}{n:Nat}{m:List Int}(hb:kL n m):SpI e n (On m) m (lG m) (fun _=>False):=by
 refine⟨hb,fun i h=>h,fun i h=>.base h,fun a h=>.inl ?_,fun a h=>?_,?_⟩
 ·rw[sL hb,gC];exact⟨h.lt hb,h⟩
 ·rw[sL hb,gC]at h;exact h.2
 have h1:(lG m).length=(m.filter fun x=>decide (0<x)).length:=by
  unfold lG
  have:m=(List.range m.length).map fun i=>m.getD i 0:=by
   refine jS (by simp) fun i h1 h2=>?_;simp[List.getD,h1]
  conv=>rhs;rw[this]
  rw[List.filter_map,qy]
  rfl
 have h2:m.count 0+(m.filter fun x=>decide (0<x)).length<=m.length:=by
  clear h1 hb
  induction m with
  |nil=>simp
  |cons a l ih=>
   rw[List.count_cons,jR];by_cases ha:0<a
   ·have h1:decide (0<a)=true:=qw ha
    have h2:(a==0)=false:=by simp;omega
    rw[h1,h2];simp;omega
   have h1:decide (0<a)=false:=qu ha;rw[h1];simp only[qP,jp,qx];split<;>omega
 rw[h1,<-hb.len];exact h2
theorem q8t{e:List (List Ed)}{n:Nat}{S:Nat->Prop}{m:List Int}(h:SpI e n S m [] (fun _=>False)):lG m=nO n (Rch e S):=by
 rw[sL h.bits];refine q1s fun i _=>⟨h.rch i,fun hr=>Rch.least h.base (fun a b ha hf=>?_) hr⟩;rcases h.clo a ha with h1|h1|h1
 ·cases h1
 ·exact h1.elim
 exact h1 b hf
theorem q8u{e:List (List Ed)}{n:Nat}{S:Nat->Prop}{m:List Int}{lf:List Nat}{s:Nat}(h:SpI e n S m (lf++[s]) (fun _=>False)):SpI e n S m lf (fun a=>a=s):=by
 refine⟨h.bits,h.base,h.rch,fun a ha=>?_,fun a ha=>h.lfm a (by simp[ha]),by have:=h.cnt;simp at this;omega⟩;rcases h.clo a ha with h1|h1|h1
 ·rcases List.mem_append.1 h1 with h2|h2
  ·exact .inl h2
  exact .inr (.inl (by simpa using h2))
 ·exact h1.elim
 exact .inr (.inr h1)
theorem q6O{e:List (List Ed)}{n:Nat}{S:Nat->Prop}{m:List Int}{lf:List Nat}{s t:Nat}(h:SpI e n S m lf (fun a=>a=s))(ht:t<n)(hs:On m s)(hf:zX e s t)(h0:m.getD t 0=0):SpI e n S (m.set t 1) (lf++[t]) (fun a=>a=s):=by
 have hon:=fun i=>q0b h.bits ht i;refine⟨wH h.bits t,fun i hi=>(hon i).2 (.inr (h.base i hi)),fun i hi=>?_,fun a ha=>?_,fun a ha=>?_,?_⟩
 ·rcases(hon i).1 hi with rfl|h1
  ·exact .step (h.rch s hs) hf
  exact h.rch i h1
 ·rcases(hon a).1 ha with rfl|h1
  ·exact .inl (by simp)
  rcases h.clo a h1 with h2|h2|h2
  ·exact .inl (by simp[h2])
  ·exact .inr (.inl h2)
  exact .inr (.inr fun b hb=>(hon b).2 (.inr (h2 b hb)))
 ·rcases List.mem_append.1 ha with h2|h2
  ·exact(hon a).2 (.inr (h.lfm a h2))
  exact(hon a).2 (.inl (by simpa using h2))
 have:=zY h.bits ht h0;have:=h.cnt;simp;omega
theorem q6P{e:List (List Ed)}{n:Nat}{S:Nat->Prop}{m:List Int}{lf:List Nat}{s:Nat}(h:SpI e n S m lf (fun a=>a=s))(hd:∀b,zX e s b->On m b):SpI e n S m lf (fun _=>False):=by
 refine⟨h.bits,h.base,h.rch,fun a ha=>?_,h.lfm,h.cnt⟩;rcases h.clo a ha with h1|h1|h1
 ·exact .inl h1
 ·exact .inr (.inr fun b hb=>hd b (h1▸hb))
 exact .inr (.inr h1)
def By(e:List (List Ed))(S:Nat->Prop)(c:Nat)(b:Nat):Prop:=∃a,S a/\∃x∈e.getD a [],x.free=false/\tI x c=true/\x.to=b
def vS(e:List (List Ed))(F:Nat):List Nat->Nat->Prop
 |[]=>Rch e (fun i=>i=F)
 |c::cs=>fun b=>Rch e (By e (vS e F cs) c) b
theorem q0c(v:Int):bits .and .u64 v 1=v%2:=by
 have h1:(BitVec.ofInt 64 v&&&BitVec.ofInt 64 1).toNat=(BitVec.ofInt 64 v).toNat%2:=by
  rw[BitVec.toNat_and];exact Nat.and_one_is_mod _
 have h2:((BitVec.ofInt 64 v).toNat:Int)=v%18446744073709551616:=by
  rw[BitVec.toNat_ofInt];exact Int.toNat_of_nonneg (Int.emod_nonneg _ (by decide))
 show IntKind.u64.wrap ((BitVec.ofInt 64 v&&&BitVec.ofInt 64 1).toNat:Int)=v%2;rw[h1,IntKind.wrap_u64];omega
def mJ(x:Ed)(q:Nat):Int:=if q=0 then x.a else if q=1 then x.b else if q=2 then x.c else x.d
theorem q4V{w:World}(x:Ed)(c:Nat)(hc:c<256):
  Calls prog 209 #[.agg #[.int .u64 x.a,.int .u64 x.b,.int .u64 x.c,.int .u64 x.d],.int .u8 c] w fun e w'=>e=.returned (.bool (tI x c))/\∃x,w'=ext w x:=by
 have h1:=q0c
 have hw:tI x c=(mJ x (c/64)/2^(c%64)%2==1):=by
  exact ZmL2
 rw[hw]
 have hcell:[Value.int .u64 x.a,Value.int .u64 x.b,Value.int .u64 x.c,Value.int .u64 x.d][c/64]? =some (.int .u64 (mJ x (c/64))):=by
  exact ZmL5
 have hm:c%64<64:=jT _ (by decide);clear hw;go_enter func209,ntmps209;go_wp2;go_ret;exact⟨rfl,aI (aA w _)⟩
def q9V(x:Ed):Prop:=∀q,0<=mJ x q
theorem qaN{w:World}(x:Ed)(hx:q9V x)(c:Nat)(hc:c<256):
  Calls prog 96 #[.agg #[.int .u64 x.a,.int .u64 x.b,.int .u64 x.c,.int .u64 x.d],.int .u8 c] w fun e w'=>e=.returned (.bool (tI x c))/\∃x,w'=ext w x:=by
 have hw:tI x c=(mJ x (c/64)/2^(c%64)%2==1):=by
  exact ZmL2
 rw[hw]
 have hcell:[Value.int .u64 x.a,Value.int .u64 x.b,Value.int .u64 x.c,Value.int .u64 x.d][c/64]? =some (.int .u64 (mJ x (c/64))):=by
  exact ZmL5
 have hm:c%64<64:=jT _ (by decide);have h0:=hx (c/64);generalize mJ x (c/64)=v at*;have ql4:0<=v/2^(c%64):=Int.ediv_nonneg h0 (Int.pow_nonneg (by decide));clear hw hx;go_enter func96,ntmps96;go_wp2;go_ret;exact⟨rfl,aI (aA w _)⟩
theorem uE(n:Nat)(st:List Int):kL n (sJ n st):=by
 unfold sJ
 have key:∀(l:List Int) (m:List Int),kL n m->kL n (l.foldl mk1 m):=by
  intro l
  induction l with
  |nil=>intro m h;exact h
  |cons a l ih=>
   intro m h;rw[qH];refine ih _ ?_;unfold mk1;split
   ·exact wH h _
   exact h
 exact key st _ (xR n)
theorem q4W(n:Nat)(st:List Int)(i:Nat):On (sJ n st) i↔i<n/\(i:Int)∈st:=by
 unfold sJ
 have key:∀(l:List Int) (m:List Int),kL n m->(On (l.foldl mk1 m) i↔On m i\/(i<n/\(i:Int)∈l)):=by
  intro l
  induction l with
  |nil=>intro m h;simp
  |cons a l ih=>
   intro m h;rw[qH];by_cases ha:0<=a/\a<m.length
   ·have e:mk1 m a=m.set a.toNat 1:=by unfold mk1;rw[qt ha]
    have hl:=h.len;rw[e,ih _ (wH h _),q0b h (by omega)]
    constructor
    ·rintro((h1|h1)|h1)
     ·exact .inr ⟨by omega,by simp;omega⟩
     ·exact .inl h1
     exact .inr ⟨h1.1,by simp[h1.2]⟩
    rintro(h1|⟨h1,h2⟩)
    ·exact .inl (.inr h1)
    rcases List.mem_cons.1 h2 with h3|h3
    ·exact .inl (.inl (by omega))
    exact .inr ⟨h1,h3⟩
   have e:mk1 m a=m:=by unfold mk1;rw[qr ha]
   have hl:=h.len;rw[e,ih _ h];refine or_congr Iff.rfl (and_congr_right fun h1=>⟨fun h2=>qU _ h2,fun h2=>?_⟩);rcases List.mem_cons.1 h2 with h3|h3
   ·omega
   exact h3
 rw[key st _ (xR n)];exact⟨fun h=>h.elim (fun h=>absurd h (q2F n i)) id,.inr⟩
theorem wI(l:List Int)(i:Nat)(x:Int):(ints l).set i (.int .i64 x)=ints (l.set i x):=by simp[ints,a9]
theorem q0d(n:Nat)(x:Int):List.replicate n (.int .i64 x)=ints (List.replicate n x):=by simp[ints]
theorem q64{w:World}{A:Array Value}{e:List (List Ed)}{F:Int}{r:List Int}(h:zW w A e F r)(hn:e.length<=100000){v:Value}{st:List Int}(hs:eE w v st):
  Calls prog 206 #[.agg A,v] w fun en w'=>∃u,en=.returned u/\Own w' w.heap.size 3 u (ints (sJ e.length st))/\Below w.heap.size w w':=by
 obtain⟨ve,vr,rfl,he,hr⟩:=h;obtain⟨oe,ce,be,fe,rfl,hde,hce⟩:=he.open;obtain⟨os,cs,bs,fs,rfl,hds,hcs⟩:=hs.open;have hix:=fun(W:World) (i:Nat) (hi:i<st.length)=>aU (P:=prog) 39 3 underlying39 (by kernel_rfl) hds W .i64 i (by omega) (by omega);simp only[qA]at hix;have HB:=qa hds.hblk;have HC:=qa hcs;have hml:=hds.len;obtain⟨n,hn'⟩:∃n,n=e.length:=⟨_,rfl⟩;obtain⟨ln,hln⟩:∃ln,ln=st.length:=⟨_,rfl⟩;have HLN:=qa hln;have hmk:=wX (P:=prog) 39 3 (.int .i64 0) 8 n underlying39 (by kernel_rfl) rfl (by decide) (by omega);rw[<-hn']at hn⊢;rw[<-hln]at hix HB HC hml⊢;have HA:=qa (aA w (.cells #[.slice oe n ce,.int .i64 F,vr] 209));have HO:=qa (vZ (w.alloc (.cells #[.slice oe n ce,.int .i64 F,vr] 209)) w.heap.size 3 (.int .i64 0) n (by simp) (by omega));have HA2:=qa (HA.o.trans ((aA (w.alloc (.cells #[.slice oe n ce,.int .i64 F,vr] 209)) (.cells (madeCells #[.int .i64 0] n) 3)).mono HA.o.size));have hsz:(w.alloc (.cells #[.slice oe n ce,.int .i64 F,vr] 209)).heap.size=w.heap.size+1:=by simp
 rw[hsz]at HO;clear hs hds hcs hn' hln hce hde he hr;go_enter func206,ntmps206;go_wp2;generalize (w.alloc (.cells #[.slice oe n ce,.int .i64 F,vr] 209)).alloc (.cells (madeCells #[.int .i64 0] n) 3)=w1 at*
 go_loopg [14] ln (fun gk iv wr=>∃i:Nat,iv=.int .i64 i/\i<=ln/\Own wr w.heap.size 3 (.slice (some ⟨w.heap.size+1,0,none⟩) n n) (ints ((st.take i).foldl mk1 (List.replicate n 0)))/\Below w.heap.size w wr/\gk=ln-i)
 case atStart=>exact⟨0,rfl,qd _,by simpa[q0d]using HO.o,HA2.o,rfl⟩
 case round=>
  obtain⟨i,rfl,hi,hown,qbe,rfl⟩:=hrel;have HW:=qa qbe;have HMS:=qa (rfl:(st.take i).foldl mk1 (List.replicate n 0)=(st.take i).foldl mk1 (List.replicate n 0));by_cases hlt:i<ln
  ·have hcell:=(HW.o.cell (p:=⟨bs,fs+i,none⟩) (HB.o (by omega))).trans (HC.o i hlt)
   have hbw:bs<wr.heap.size:=by have:=HW.o.size;have:=HB.o (by omega);omega
   have qbi:=fun W=>hix W i hlt;have HNX:=qa (q1q mk1 (List.replicate n 0) st 0 i (by have:=HLN.o;omega));have HML:Hid (((st.take i).foldl mk1 (List.replicate n 0)).length=n):=qa (by rw[vR,qL]);obtain⟨x,hx⟩:∃x,x=st.getD i 0:=⟨_,rfl⟩;rw[<-hx]at hcell HNX;generalize (st.take i).foldl mk1 (List.replicate n 0)=m at*;have HOW:=qa hown;have qc3:=HW.o.size;clear hx hown qbe HA2 HO HMS hmk;by_cases h0:0<=x
   ·obtain⟨k,rfl⟩:=jE h0
    by_cases h1:k<n
    ·have hfr:=HOW.o.free k
     have hbg:=HOW.o.blk.2;have hcx:=HOW.o.cell (i:=k) (by rw[aV,HML.o];exact h1);have qdi:=aU (P:=prog) 39 3 underlying39 (by kernel_rfl) (show Hd wr (some ⟨w.heap.size+1,0,none⟩) n n (w.heap.size+1) 0 from⟨fun _=>rfl,qb _,by simp only[maxLen];omega,by omega,fun _=>hbg⟩);have qbJ:=fun W=>qdi W .i64 k (by omega) (by omega);simp only[qA,qE]at qbJ;have HST:=qa (HOW.o.store k (.int .i64 1));have qek:Hid (mk1 m (k:Int)=m.set k 1):=qa (by unfold mk1;rw[qt (by have:=HML.o;omega)];simp);clear qdi;go_wp2
     go_roundg (ln-(i+1))
     case measure=>omega
     case rel=>
      have hg:=HST.o.2;refine⟨i+1,by go_num,by omega,?_,HW.o.grown hg qc3 (fun q hq=>by cases hq;omega),rfl⟩;rw[HNX.o,qek.o,<-wI];exact HST.o.1
    have qek:Hid (mk1 m (k:Int)=m):=qa (by unfold mk1;rw[qr (by have:=HML.o;omega)]);go_wp2
    exact ZmL4
   have qek:Hid (mk1 m x=m):=qa (by unfold mk1;rw[qr (by omega)]);go_wp2
   exact ZmL4
  have hie:i=ln:=by omega
  subst hie;have HOW:=qa hown;clear hown;go_wp2;go_ret;refine⟨_,rfl,?_,HW.o⟩;have:=HOW.o;rw[HLN.o,qX]at this;exact this
theorem Own.lowI{w:World}{B:Nat}{g n cap:Nat}{xs:List Value}(h:Own w B 3 (.slice (some ⟨g,0,none⟩) n cap) xs)(k:Nat)(hk:k<=n)(h0:0<n):
  Own w B 3 (.slice (some ⟨g,0,none⟩) k cap) (xs.take k)/\∀W:World,(Instr.sliceAt 39 (.slice (some ⟨g,0,none⟩) n cap) none (some (.int .i64 (k:Int))) none).run prog W=.ok (.slice (some ⟨g,0,none⟩) k cap) W:=by
 have hl:=h.len;obtain⟨⟨hz,hh⟩,hs⟩:=h;rcases hh with⟨h1,_⟩|⟨g',cap',cur,h1,hb,hg,hnc,hcm,hcs,qbh⟩
 ·cases h1
 simp at h1;obtain⟨rfl,h2,rfl⟩:=h1;have ht:(xs.take k).length=k:=by rw[qT];omega
 refine⟨⟨⟨by omega,.inr ⟨g,cap,cur,by rw[ht],hb,hg,by rw[ht];omega,hcm,hcs,?_⟩⟩,by omega⟩,fun W=>?_⟩
 ·rw[ht]
  have:xs.take k=(cur.toList.take (xs.length*1)).take k:=by rw[qbh]
  rw[this,List.take_take]
  congr 1
  omega
 obtain⟨r1,r2⟩:=oY (P:=prog) (k:=1) 39 3 underlying39 (by kernel_rfl);rw[run_sliceAt_slice (P:=prog) (t:=39) (h:=r1),run_slice_h (t:=39) (ht:=r1) (h0:=by omega) (h2:=by omega),r2];simp[Result.andThen,sliced,show cap≠0 by omega,kF]
theorem q2G{w0 w:World}{A:Array Value}{e:List (List Ed)}{F:Int}{r:List Int}(h:zW w0 A e F r)(hb:Below w0.heap.size w0 w)(hr:dZ e F r=true){v:Value}{m0:List Int}(hm:Own w w0.heap.size 3 v (ints m0))(h01:kL e.length m0):
  Calls prog 205 #[.agg A,v] w fun en w'=>∃u,en=.returned u/\Own w' w0.heap.size 3 u (ints (nz (nO e.length (Rch e (On m0)))))/\Below w0.heap.size w0 w':=by
 obtain⟨hhd,qc6⟩:=kY.1 hr;have hn:1<=e.length/\e.length<=3000:=by have:=j9 hhd;omega
 have HED:Hid (∀i,i<e.length->∀j,j<(e.getD i []).length->W0 e.length ((e.getD i []).getD j eA)=true):=qa (fun i hi j hj=>(G2.1 (qc6 i hi)).2 j hj);obtain⟨ve,vr,rfl,he,-⟩:=h;obtain⟨oe,ce,be,fe,rfl,hde,hce⟩:=he.open;have qc9:=sK hde;have hbe:=hde.hblk (by omega);have HCE:=qa hce;have hlm:(ints m0).length=e.length:=by rw[aV];exact h01.len
 obtain⟨oa,cap,g,rfl,hdv,hgb,-⟩:=hm.cases;rw[hlm]at hm hdv hgb⊢;obtain rfl:=hdv.hat (by omega);obtain⟨-,hg0⟩:=hgb (by omega);have hgw:=hdv.hblk (by omega);have qdi:=fun(W:World) (i:Nat) (hi:i<e.length)=>aU (P:=prog) 39 3 underlying39 (by kernel_rfl) hdv W .i64 i (by omega) (by omega);simp only[qA,qE]at qdi;have HS0:=qa (q4U (e:=e) h01);obtain⟨n,hn'⟩:∃n,n=e.length:=⟨_,rfl⟩;have HN:=qa hn';rw[<-hn']at hn HED qc9 HCE hm qdi HS0⊢;have hA:=aA w (.cells #[.slice oe n ce,.int .i64 F,vr] 209);have HBX:=qa (by simpa using bU w 0 #[.slice oe n ce,.int .i64 F,vr] 209 (by simp) (qd _):Own (w.alloc (.cells #[.slice oe n ce,.int .i64 F,vr] 209)) 0 209 (.slice (some ⟨w.heap.size,0,none⟩) 3 3) [.slice oe n ce,.int .i64 F,vr]);have HM1:=qa (hm.up hA);have HB1:=qa (hb.trans (hA.mono hb.size));have hsz:(w.alloc (.cells #[.slice oe n ce,.int .i64 F,vr] 209)).heap.size=w.heap.size+1:=by simp
 have qj1:∃S,S=On m0:=⟨_,rfl⟩;obtain⟨S,hS⟩:=qj1;rw[<-hS]at HS0⊢;have hw0:=hb.size;clear hm hdv hgb hde hce he qc6 hhd hr h01 hlm hS hn' hb hA;go_enter func205,ntmps205
 go_upto_region 1 with fail
 generalize w.alloc (.cells #[.slice oe n ce,.int .i64 F,vr] 209)=w1 at*;have HMK:=qa (V9 (w:=w1) HM1.o.sl (by have:=HS0.o.bits.len;omega))
 go_wp2_with((with_reducible go_at_call 208);refine HMK.o.mono ?_;rintro en w2 ⟨u,rfl,ho,hb2⟩;have HO2:=qa (ho.mono (Nat.le_of_eq hsz.symm));have HB2:=qa (HB1.o.trans (hb2.mono HB1.o.size));have HM2:=qa (HM1.o.up hb2);have qbm:=qa (HBX.o.up hb2);clear ho hb2)
 clear HMK HM1 HB1 HBX hsz
 go_loopg [5] (m0.count 0+(lG m0).length) (fun gk lv wr=>∃(m:List Int) (lf:List Nat),Own wr w0.heap.size 3 (.slice (some ⟨g,0,none⟩) n cap) (ints m)/\Own wr (w.heap.size+1) 3 lv (ints (nz lf))/\SpI e n S m lf (fun _=>False)/\Own wr 0 209 (.slice (some ⟨w.heap.size,0,none⟩) 3 3) [.slice oe n ce,.int .i64 F,vr]/\Below w0.heap.size w0 wr/\gk=m.count 0+lf.length)
 case atStart=>exact⟨m0,lG m0,HM2.o,HO2.o,HS0.o,qbm.o,HB2.o,rfl⟩
 case round=>
  obtain⟨m,lf,hm,hl,hsp,hbx,hbl,rfl⟩:=hrel;have HSP:=qa hsp;have HM:=qa hm;have HL:=qa hl;have HB:=qa hbl;have HX:=qa hbx;clear HM2 HO2 HS0 qbm HB2 hm hl hsp hbx hbl;have HG:Hid (w.heap.size<wr.heap.size):=qa (HX.o.blk.2);rcases List.eq_nil_or_concat lf with rfl|⟨lf,s,rfl⟩
  ·obtain⟨ol,cl,gl,rfl,-,-⟩:=HL.o.cases
   simp only[nz,ints,jq,qK]at HL⊢;have HMK:=qa (V9 (w:=wr) HM.o.sl (by have:=HSP.o.bits.len;omega))
   go_wp2_with((with_reducible go_at_call 208);refine HMK.o.mono ?_;rintro en w2 ⟨u,rfl,ho,hb2⟩;have HO2:=qa ho;have HB2:=qa hb2;clear ho hb2)
   go_ret;refine⟨u,rfl,?_,HB.o.trans (HB2.o.mono HB.o.size)⟩;have:=HO2.o.mono HB.o.size;rw[q8t HSP.o]at this;exact this
  rw[List.concat_eq_append]at*;have hsl:(ints (nz (lf++[s]))).length=lf.length+1:=by simp[nz]
  obtain⟨ol,cl,gl,rfl,hdl,hgl,hcl,-⟩:=HL.o.cases;rw[hsl]at HL hdl hgl hcl⊢;obtain rfl:=hdl.hat (by omega);have qiS:=hgl (by omega);have qeJ:=hdl.hblk (by omega)
  have hcs:wr.cell? ⟨gl,lf.length,none⟩=some (.int .i64 (s:Int)):=by
   rw[hcl lf.length (by omega),eS _ _ (by simp[nz]),F3 _ _ (by simp)];simp[List.getD]
  have qd0:=aU (P:=prog) 39 3 underlying39 (by kernel_rfl) hdl;have qfs:=fun W=>qd0 W .i64 (lf.length:Int) (by omega) (by omega);simp only[qA,qE]at qfs;obtain⟨qcZ,hcut⟩:=HL.o.lowI lf.length (by omega) (by omega)
  have qhP:Hid (Own wr (w.heap.size+1) 3 (.slice (some ⟨gl,0,none⟩) lf.length cl) (ints (nz lf))):=qa (by
   have e:(ints (nz (lf++[s]))).take lf.length=ints (nz lf):=by simp[ints,nz]
   rw[e]at qcZ;exact qcZ)
  have qfd:On m s:=HSP.o.lfm s (by simp);have hsn:s<n:=qfd.lt HSP.o.bits;have HON:=qa qfd;have qfS:=qa (q8u HSP.o);obtain⟨oi,ci,bi,fi,hrow,hdi,hcell⟩:=HCE.o s hsn;have qbN:=(HB.o.cell (p:=⟨be,fe+s,none⟩) hbe).trans hrow;have qcv:be<wr.heap.size:=by have:=HB.o.size;omega
  have qd1:=fun W=>qc9 W s hsn;have qbi:=pB hdi;have hbi:=hdi.hblk;have hmi:=hdi.len;have HCI:=qa hcell;have qdd:=qa (HED.o s hsn);obtain⟨row,hrw⟩:∃row,row=e.getD s []:=⟨_,rfl⟩;have HRO:=qa hrw;rw[<-hrw]at qbN qbi hbi hmi HCI qdd;obtain⟨ln,hln⟩:∃ln,ln=row.length:=⟨_,rfl⟩;have HLN:=qa hln;rw[<-hln]at qbN qbi hbi hmi HCI qdd;have x0:=HX.o.cell (i:=0) (by simp);simp only[j7]at x0;have hwx:=HG.o;obtain⟨K,hK⟩:∃K,K=m.count 0+lf.length:=⟨_,rfl⟩;have HK:=qa hK;clear qcZ hrow hdi hcell hrw hln qd0 hcl hdl hgl hsl qfd hK;have hlf:lf.length<=3000:=by have:=qfS.o.cnt;omega
  go_wp2;have HJK:Hid (List.count 0 m+(lf++[s]).length=K+1):=qa (by rw[HK.o];simp;omega);have HMO:=HM;have HXO:=HX;have HBO:=HB;have HGI:Hid (gl<wr.heap.size):=qa qeJ;clear HM HX HB HG qbN qcv x0 hwx hcs hcut qfs qeJ;generalize wr=wo at*
  go_loopg [5,31] ln (fun gk lv jv wr=>∃(j:Nat) (m':List Int) (lf':List Nat),jv=.int .i64 j/\j<=ln/\Own wr w0.heap.size 3 (.slice (some ⟨g,0,none⟩) n cap) (ints m')/\Own wr (w.heap.size+1) 3 lv (ints (nz lf'))/\SpI e n S m' lf' (fun a=>a=s)/\On m' s/\(∀q,q<j->(row.getD q eA).free=true->∀b:Nat,(row.getD q eA).to=b->On m' b)/\Own wr 0 209 (.slice (some ⟨w.heap.size,0,none⟩) 3 3) [.slice oe n ce,.int .i64 F,vr]/\Below w0.heap.size w0 wr/\K=m'.count 0+lf'.length/\gk=ln-j)
  case atStart=>exact⟨0,m,lf,rfl,qd _,HMO.o,qhP.o,qfS.o,HON.o,fun q hq=>absurd hq (qz q),HXO.o,HBO.o,HK.o,rfl⟩
  case round=>
   obtain⟨j,m',lf',rfl,hj,hm,hl,hsp,hon,hall,hbx,hbl,hK,rfl⟩:=hrel;have HM:=qa hm;have HL:=qa hl;have qcA:=qa hsp;have qcR:=qa hon;have qcm:=qa hall;have HX:=qa hbx;have HB:=qa hbl;have HK':=qa hK;have qh0:=HM.o.blk.2;clear hm hl hsp hon hall hbx hbl hK HMO HXO HBO qhP qfS HSP qiS HON HK HGI;by_cases hlt:j<ln
   ·obtain⟨ed,hed⟩:∃ed,ed=row.getD j eA:=⟨_,rfl⟩
    have HEE:=qa hed;have qcu:=hbi (by omega)
    have HCD:Hid (∀c,c<6->wr.cell? ⟨bi,fi+j*6+c,none⟩=some ((edA ed).getD c undef)):=qa (fun c hcl=>by
     rw[HB.o.cell (p:=⟨bi,fi+j*6+c,none⟩) qcu,HCI.o j hlt c hcl,G4,hed])
    have hok:=qdd.o j hlt;rw[<-hed]at hok;obtain⟨tq,fr',a,b,c,d⟩:=ed;unfold edA at HCD;simp only at HCD;have ht:0<=tq/\tq<n:=by unfold W0 at hok;simp at hok;omega
    obtain⟨t,rfl⟩:=jE ht.1;have htn:t<n:=by omega
    have qcq:=fun W=>qbi W j hlt;have hA6:=aA wr (.cells #[.int .i64 t,.bool fr',.int .u64 a,.int .u64 b,.int .u64 c,.int .u64 d] 226);have HA6:=qa hA6;have qko:(wr.alloc (.cells #[.int .i64 t,.bool fr',.int .u64 a,.int .u64 b,.int .u64 c,.int .u64 d] 226)).heap.size=wr.heap.size+1:=by simp
    clear hed hok ht hA6;cases fr' with
    |false=>
     go_wp2_with(refine aH rfl 226 _ rfl bi (fi+j*6) 6 rfl _ _ HCD.o rfl underlying226 rfl (by kernel_rfl) ?_)
     go_roundg (ln-(j+1))
     case measure=>omega
     case rel=>
      refine⟨j+1,m',lf',by go_num,by omega,HM.o.up HA6.o,HL.o.up HA6.o,qcA.o,qcR.o,fun q hq hf b' hb'=>?_,HX.o.up HA6.o,HB.o.trans (HA6.o.mono HB.o.size),HK'.o,rfl⟩;by_cases hqj:q=j
      ·rw[hqj,<-HEE.o]at hf;cases hf
      exact qcm.o q (by omega) hf b' hb'
    |true=>
     have HFR:Hid (zX e s t):=qa ⟨⟨t,true,a,b,c,d⟩,by rw[<-HRO.o,HEE.o];simp[List.getD,show j<row.length by have:=HLN.o;omega],rfl,rfl⟩;have hcm:=HM.o.cell (i:=t) (by rw[aV,qcA.o.bits.len];exact htn);rw[eS _ _ (by rw[qcA.o.bits.len];exact htn)]at hcm;have qfr:=fun W=>qdi W t htn;rcases qcA.o.bits.bit t with h0|h1
     ·rw[h0]at hcm
      have HH0:=qa h0;have hfr:=HM.o.free t;have hwg:wr.heap.size+1=wr.heap.size+1:=rfl;have HST:=qa (HM.o.store t (.int .i64 1));have HA7:=qa (aA (wr.setCell ⟨g,t,none⟩ (.int .i64 1)) (.cells #[.int .i64 t,.bool true,.int .u64 a,.int .u64 b,.int .u64 c,.int .u64 d] 226));have HMA:=qa (HST.o.1.up HA7.o);have HLA:=qa ((HL.o.keep HST.o.2 (.inr (fun e=>by have:=HL.o.lt g e;omega))).up HA7.o);have HXA:=qa ((HX.o.keep HST.o.2 (.inr (fun e=>by have:w.heap.size=g:=qo e;omega))).up HA7.o);have HBA:Hid (Below w0.heap.size w0 ((wr.setCell ⟨g,t,none⟩ (.int .i64 1)).alloc (.cells #[.int .i64 t,.bool true,.int .u64 a,.int .u64 b,.int .u64 c,.int .u64 d] 226))):=qa ((HB.o.grown HST.o.2 (by have:=HB.o.size;omega) (fun k hk=>by cases hk;omega)).trans (HA7.o.mono (by have:=HB.o.size;simpa using this)));have qgy:((wr.setCell ⟨g,t,none⟩ (.int .i64 1)).alloc (.cells #[.int .i64 t,.bool true,.int .u64 a,.int .u64 b,.int .u64 c,.int .u64 d] 226)).heap.size=wr.heap.size+1:=by simp
      have HA8:=qa (aA ((wr.setCell ⟨g,t,none⟩ (.int .i64 1)).alloc (.cells #[.int .i64 t,.bool true,.int .u64 a,.int .u64 b,.int .u64 c,.int .u64 d] 226)) (.cells #[.int .i64 (t:Int)] 3));have hll:lf'.length<=3000:=by have:=qcA.o.cnt;omega
      have hwz:=HB.o.size;have hxz:=HX.o.blk.2
      have qjI:Hid (Sl (((wr.setCell ⟨g,t,none⟩ (.int .i64 1)).alloc (.cells #[.int .i64 t,.bool true,.int .u64 a,.int .u64 b,.int .u64 c,.int .u64 d] 226)).alloc (.cells #[.int .i64 (t:Int)] 3)) (.slice (some ⟨wr.heap.size+1,0,none⟩) 1 1) (ints (nz [t]))):=qa (by
       have:=dY ((wr.setCell ⟨g,t,none⟩ (.int .i64 1)).alloc (.cells #[.int .i64 t,.bool true,.int .u64 a,.int .u64 b,.int .u64 c,.int .u64 d] 226)) #[.int .i64 (t:Int)] 3 (by simp);rw[qgy]at this;exact this)
      clear h0 hwg
      go_wp2_with(first|(refine aH rfl 226 _ rfl bi (fi+j*6) 6 rfl _ _ HCD.o rfl underlying226 rfl (by kernel_rfl) ?_)|(at_builtin;go_loud (refine bM rfl (.tmp 49) (.tmp 52) 39 rfl (w.heap.size+1) 3 (.int .i64 0) 8 underlying39 (by kernel_rfl) rfl (by decide) u5 (ints (nz lf')) rfl (HLA.o.up HA8.o) (.slice (some ⟨wr.heap.size+1,0,none⟩) 1 1) (ints (nz [t])) rfl qjI.o (N8 _) (by simp[nz];omega) (by simp;omega) ?_);intro v' w5 hown1 hg1 hk1;have HO1:=qa hown1;have HG1:=qa hg1;clear hown1 hg1 hk1))
      go_roundg (ln-(j+1))
      case measure=>omega
      case rel=>
       have qfx:=fun k (hk:u5.ownBlock=some k)=>(HL.o.lt k hk).1;have hmb:=qcA.o.bits;have qgL:=fun i=>q0b hmb htn i;refine⟨j+1,m'.set t 1,lf'++[t],by go_num,by omega,?_,?_,q6O qcA.o htn qcR.o HFR.o HH0.o,(qgL s).2 (.inr qcR.o),fun q hq hf b' hb'=>?_,?_,?_,?_,rfl⟩
       ·rw[<-wI]
        exact(HMA.o.up HA8.o).keep HG1.o (.inr (fun e=>by have:=qfx g e.symm;omega))
       ·rw[N7,F4];exact HO1.o
       ·rw[qgL]
        by_cases hqj:q=j
        ·rw[hqj,<-HEE.o]at hb'
         exact .inl (jo hb').symm
        exact .inr (qcm.o q (by omega) hf b' hb')
       ·exact(HXA.o.up HA8.o).keep HG1.o (.inr (fun e=>by have:=qfx w.heap.size e.symm;omega))
       ·exact(HBA.o.trans (HA8.o.mono (by omega))).grown HG1.o (by simp;omega) (fun k hk=>by have:=qfx k hk;omega)
       have:=zY hmb htn HH0.o;have:=HK'.o;simp;omega
     rw[h1]at hcm;have HH1:=qa h1;clear h1
     go_wp2_with(refine aH rfl 226 _ rfl bi (fi+j*6) 6 rfl _ _ HCD.o rfl underlying226 rfl (by kernel_rfl) ?_)
     go_roundg (ln-(j+1))
     case measure=>omega
     case rel=>
      refine⟨j+1,m',lf',by go_num,by omega,HM.o.up HA6.o,HL.o.up HA6.o,qcA.o,qcR.o,fun q hq hf b' hb'=>?_,HX.o.up HA6.o,HB.o.trans (HA6.o.mono HB.o.size),HK'.o,rfl⟩;by_cases hqj:q=j
      ·rw[hqj,<-HEE.o]at hb'
       obtain rfl:t=b':=jo hb';exact HH1.o
      exact qcm.o q (by omega) hf b' hb'
   go_wp2
   go_roundg K
   case measure=>rw[HJK.o];omega
   case rel=>
    refine⟨m',lf',HM.o,HL.o,q6P qcA.o (fun b hb=>?_),HX.o,HB.o,HK'.o⟩;obtain⟨x,hx,hf,ht⟩:=hb;rw[<-HRO.o]at hx;obtain⟨q,hq,rfl⟩:=jg hx;have hg:row.getD q eA=row[q]:=by simp[List.getD,hq]
    exact qcm.o q (by have:=HLN.o;omega) (by rw[hg];exact hf) b (by rw[hg];exact ht)
structure U0(w:World)(p:Nat)(s:ByteArray)(at_:Nat):Prop where
 own:Own w p 95 (.slice (some ⟨p,0,none⟩) 4 4) [.string s,.int .i64 at_,.int .i64 0,.int .i64 0]
section
variable {w w' : World} {p : Nat} {s : ByteArray} {at_ : Nat}
theorem U0.c0(h:U0 w p s at_):w.cell? ⟨p,0,none⟩=some (.string s):=h.own.cell (by simp)
theorem U0.c1(h:U0 w p s at_):w.cell? ⟨p,1,none⟩=some (.int .i64 at_):=h.own.cell (by simp)
theorem U0.c2(h:U0 w p s at_):w.cell? ⟨p,2,none⟩=some (.int .i64 0):=h.own.cell (by simp)
theorem U0.free(h:U0 w p s at_)(c:Nat):w.frozen? ⟨p,c,none⟩=false:=h.own.free c
theorem U0.lt(h:U0 w p s at_):p<w.heap.size:=h.own.blk.2
theorem U0.up(h:U0 w p s at_)(hb:Below w.heap.size w w'):U0 w' p s at_:=⟨h.own.up hb⟩
theorem U0.set(h:U0 w p s at_)(k:Nat):U0 (w.setCell ⟨p,1,none⟩ (.int .i64 k)) p s k/\w.grownBy (w.setCell ⟨p,1,none⟩ (.int .i64 k)) (some p):=⟨⟨(h.own.store 1 _).1⟩,(h.own.store 1 _).2⟩
end
def dS(w:World)(B:Nat)(u:Value)(l:List Nd):Prop:=cA 8 w B 65 u (l.map ndC)
theorem dS.at{w:World}{B:Nat}{u:Value}{l:List Nd}(h:dS w B u l):cB w u l:=cA.sl h
theorem dS.up{w w':World}{B:Nat}{u:Value}{l:List Nd}(h:dS w B u l)(hb:Below w.heap.size w w'):dS w' B u l:=cA.up h hb
theorem dS.mono{w:World}{B B':Nat}{u:Value}{l:List Nd}(h:dS w B u l)(hb:B'<=B):dS w B' u l:=cA.mono h hb
theorem dS.keep{w w':World}{B p:Nat}{u:Value}{l:List Nd}(h:dS w B u l)(hg:w.grownBy w' (some p))(hp:p<B):dS w' B u l:=
 cA.keep h hg (by
  cases hq:u.ownBlock with
  |none=>exact .inl rfl
  |some b=>
   have:=(cA.lt h b hq).1;refine .inr (fun e=>?_);have:=qo e;omega)
structure lA(w:World)(g:Nat)(nv rv:Value)(cl:List Int):Prop where
 own:Own w g 41 (.slice (some ⟨g,0,none⟩) 258 258) (ints cl++[nv,rv])
 len:cl.length=256
theorem lA.keep{w w':World}{g:Nat}{nv rv:Value}{cl:List Int}{row:Option Nat}(h:lA w g nv rv cl)(hg:w.grownBy w' row)(hne:row≠some g):lA w' g nv rv cl:=⟨h.own.keep hg (.inr (fun e=>hne e.symm)),h.len⟩
theorem lA.up{w w':World}{g:Nat}{nv rv:Value}{cl:List Int}(h:lA w g nv rv cl)(hb:Below w.heap.size w w'):lA w' g nv rv cl:=⟨h.own.up hb,h.len⟩
theorem lA.lt{w:World}{g:Nat}{nv rv:Value}{cl:List Int}(h:lA w g nv rv cl):g<w.heap.size:=(h.own.lt g rfl).2
theorem sU{cl:List Int}{nv rv:Value}(h:cl.length=256):(ints cl++[nv,rv]).getD 256 undef=nv:=by
 exact ZmL6
theorem r8{cl:List Int}{nv rv:Value}(h:cl.length=256):(ints cl++[nv,rv]).getD 257 undef=rv:=by
 exact ZmL6
theorem P5{cl:List Int}{nv rv:Value}(h:cl.length=256){c:Nat}(hc:c<256):(ints cl++[nv,rv]).getD c undef=.int .i64 (cl.getD c 0):=by
 rw[qq,qS (by rw[aV,h];exact hc),<-qq,eS _ _ (by rw[h];exact hc)]
section
variable {w : World} {g : Nat} {nv rv : Value} {cl : List Int}
theorem lA.cellN(h:lA w g nv rv cl):w.cell? ⟨g,256,none⟩=some nv:=by
 rw[h.own.cell (by simp[h.len]),sU h.len]
theorem lA.cellR(h:lA w g nv rv cl):w.cell? ⟨g,257,none⟩=some rv:=by
 rw[h.own.cell (by simp[h.len]),r8 h.len]
theorem lA.free(h:lA w g nv rv cl)(c:Nat):w.frozen? ⟨g,c,none⟩=false:=h.own.free c
theorem lA.setR(h:lA w g nv rv cl)(v:Value):lA (w.setCell ⟨g,257,none⟩ v) g nv v cl/\w.grownBy (w.setCell ⟨g,257,none⟩ v) (some g):=by
 obtain⟨h1,h2⟩:=h.own.store 257 v;refine⟨⟨?_,h.len⟩,h2⟩;have hl:(ints cl).length=256:=by rw[aV,h.len]
 rw[List.set_append_right _ _ (by omega),hl]at h1;exact h1
theorem lA.setN(h:lA w g nv rv cl)(v:Value):lA (w.setCell ⟨g,256,none⟩ v) g v rv cl/\w.grownBy (w.setCell ⟨g,256,none⟩ v) (some g):=by
 obtain⟨h1,h2⟩:=h.own.store 256 v;refine⟨⟨?_,h.len⟩,h2⟩;have hl:(ints cl).length=256:=by rw[aV,h.len]
 rw[List.set_append_right _ _ (by omega),hl]at h1;exact h1
theorem lA.open(h:lA w g nv rv cl):∃A,w.heap[g]? =some (.cells A 41 (0,0))/\A.size=258/\A.toList=ints cl++[nv,rv]:=by
 rcases h.own.1.2 with⟨h1,_⟩|⟨g',cap,cur,h1,_,hg,hnc,hcm,hcs,qbh⟩
 ·cases h1
 simp only[Value.slice.injEq,jz,Addr.mk.injEq,and_true]at h1;obtain⟨rfl,h2,rfl⟩:=h1;have hs:cur.size=258:=by omega
 refine⟨cur,hg,hs,?_⟩;rw[<-qbh,qC];simp[hs,h.len]
theorem W8{A:Array Value}(hA:A.toList=ints cl++[nv,rv])(hl:cl.length=256){next:List (List Int)}{rules:List Int}(hn:mG w nv next)(hr:eE w rv rules):yU w A ⟨cl,next,rules⟩:=by
 have hs:A.size=258:=by rw[<-qN,hA];simp[hl]
 have hg:∀i,i<258->A[i]? =some ((ints cl++[nv,rv]).getD i undef):=fun i hi=>by
  rw[<-j6,hA,qq,qv (by simp[hl];omega)];rfl
 exact⟨hs,hl,fun i hi=>by rw[hg i (by omega),P5 hl hi],⟨nv,by rw[hg 256 (by omega),sU hl],hn⟩,⟨rv,by rw[hg 257 (by omega),r8 hl],hr⟩⟩
end
theorem q73{cl:List Int}{nv rv:Value}(h1:nv.oneCell'=true)(h2:rv.oneCell'=true):∀u∈ints cl++[nv,rv],u.oneCell'=true:=by
 intro u hu;rcases List.mem_append.1 hu with h|h
 ·exact iD _ u h
 simp only[jJ,List.not_mem_nil,or_false]at h;rcases h with rfl|rfl
 ·exact h1
 exact h2
theorem iX{ops:Array Oper}{rest:List Oper}{o:Oper}{a:Act}{w:World}{Q:Exit->Act->World->Prop}(hgd:o.guard=none)(x y:Operand)(ho:o.op=.store 41 x y)
  (g:Nat) (hx:a.eval x=.pointer (some ⟨g,0,none⟩)) (C:Array Value) (hy:a.eval y=.agg C) {nv rv nv' rv':Value} {cl cl':List Int} (hC:C.toList=ints cl'++[nv',rv']) (hl:cl'.length=256) (h1:nv'.oneCell'=true) (h2:rv'.oneCell'=true) (hB:lA w g nv rv cl)
  (h:∀w',lA w' g nv' rv' cl'->w.grownBy w' (some g)->wpList prog ops Q rest (a.put o.dst undef) w'):wpList prog ops Q (o::rest) a w:=by
 have hs:C.size=258:=by rw[<-qN,hC,qi,aV,hl];rfl
 have qdy:(ints cl++[nv,rv]).length=258:=by rw[qi,aV,hB.len];rfl
 refine bD hgd 41 x y ho g 41 g 258 258 hx C hy (by rw[hs];kernel_rfl) (ints cl++[nv,rv]) hB.own (by rw[hs,qdy];exact qb _) (by rw[hC];exact q73 h1 h2) fun w' hw hg=>h w' ⟨?_,hl⟩ hg;rw[hs,jm (by rw[qdy];exact qb _),j4,hC]at hw;exact hw
def rN:Array Value:=(ints (List.replicate 256 0)++[Value.slice none 0 0,Value.slice none 0 0]).toArray
theorem nA(W:World):(zeroValue 41).run prog W=.ok (.agg rN) W:=by kernel_rfl
theorem oE(W:World):(Instr.build 41 #[]).run prog W=.ok (.agg rN) W:=by kernel_rfl
theorem iE:rN.toList=ints (List.replicate 256 0)++[Value.slice none 0 0,Value.slice none 0 0]:=rfl
theorem gN:rN.size=258:=by
 rw[<-qN,iE,qi,aV,qL];rfl
theorem nB(w:World):lA (w.alloc (.cells rN 41)) w.heap.size (.slice none 0 0) (.slice none 0 0) (List.replicate 256 0):=by
 refine⟨?_,qL⟩;have h:=bU w w.heap.size rN 41 (by rw[gN];decide) (qb _);rw[iE,gN]at h;exact h
theorem W9{fn:Func}{tmps:Array Value}{w:World}{ds:List Deferred}{s b g:Nat}{nv rv y:Value}{cl:List Int}{next:List (List Int)}{rules:List Int}{R:Ending->World->Prop}(hf:fn.results=#[.cell s 41,.tmp b])(ha:tmps.getD s undef=.pointer (some ⟨g,0,none⟩))(hb:tmps.getD b undef=y)(hd:ds=[])
  (hB:lA w g nv rv cl) (hn:mG w nv next) (hr:eE w rv rules) (h:∀v,pS w v ⟨cl,next,rules⟩->R (.returned (.tuple #[v,y])) w):bodyPost prog fn R .ret ⟨tmps,ds⟩ w:=by
 obtain⟨A,hg,hs,hA⟩:=hB.open;have hl:=cQ (P:=prog) w g 0 258 41 41 A (0,0) _ hg underlying41 rfl (by kernel_rfl) (by rw[hs];decide);have e:A.extract 0 (0+258)=A:=by rw[qE,<-hs];simp
 rw[e]at hl;refine bodyPost_ret (v:=.tuple #[.agg A,y]) ?_ hd (h _ ⟨A,rfl,W8 hA hB.len hn hr⟩);rw[kG hf ha hl,hb]
theorem q0u(w:World):mG w (.slice none 0 0) []:=⟨[],Sl.nil _,rfl,fun i hi=>absurd hi (qz i)⟩
theorem q9o(w:World)(x:Nat)(X Z:Array Value)(hX:X=(wsV x).toArray)(hZ:Z=z4):
  eX ((w.alloc (.cells X 63)).alloc (.cells Z 63)) w.heap.size x/\eX ((w.alloc (.cells X 63)).alloc (.cells Z 63)) (w.heap.size+1) 0:=by
 refine⟨(show eX (w.alloc (.cells X 63)) w.heap.size x by rw[hX];exact gF w x).up (aA _ _),?_⟩;have:=cL (w.alloc (.cells X 63)) Z hZ;rwa [show(w.alloc (.cells X 63)).heap.size=w.heap.size+1 by simp]at this
theorem q7V(x:Nat)(c:UInt8)(w:World):Calls prog 137 #[cD x,.int .u8 (c.toNat:Nat)] w (cI (x|||2^c.toNat) w):=by
 have hz:=gZ;obtain⟨Z,hZ⟩:∃Z,Z=z4:=⟨_,rfl⟩;rw[<-hZ]at hz;obtain⟨X,hX⟩:∃X,X=(wsV x).toArray:=⟨_,rfl⟩;obtain⟨hb0,hb2⟩:=q9o w x X Z hX hZ;have hlt:=c.toNat_lt;obtain⟨k,hk⟩:∃k,k=c.toNat:=⟨_,rfl⟩;rw[<-hk]at hlt⊢;have hk4:k/64<4:=by omega
 have hcell:=hb0.cell hk4;have hfr:=hb0.free (k/64)
 have hX2:X.setIfInBounds (k/64) (.int .u64 (bits .or .u64 ((wdR x (k/64):Nat):Int) (IntKind.u64.wrap ((2:Int)^(k%64)))))=(wsV (x|||2^k)).toArray:=by
  rw[q6d,hX,<-q3s (x:=x) (y:=x|||2^k) hk4 (fun j _=>B3 j)];simp
 obtain⟨hc0,hc2⟩:=q9o w _ _ Z hX2 hZ;have HS:=qa hc0;have H2:=qa hc2;have HBL:Hid (Below w.heap.size w ((w.alloc (.cells (X.setIfInBounds (k/64) (.int .u64 (bits .or .u64 ((wdR x (k/64):Nat):Int) (IntKind.u64.wrap ((2:Int)^(k%64)))))) 63)).alloc (.cells Z 63))):=qa aJ;rw[show cD x=.agg X by rw[hX];rfl];clear hb0 hb2 hX hX2 hZ hk hc0 hc2;go_enter func137,ntmps137
 go_wp2_with(first
  |(refine aQ rfl _ rfl w.heap.size rfl (x|||2^k) HS.o ?_)
  |(refine aF rfl _ _ rfl (w.heap.size+1) rfl 0 _ rfl H2.o ?_;intro w2 hB2 hg2;have HB2:=qa hB2;have HG2:=qa (HBL.o.grown hg2 HBL.o.size (fun q e=>by cases e;exact ja _));clear hB2 hg2))
 refine bG (s:=4) (ad:=⟨w.heap.size+1,0,none⟩) (x:=cD (x|||2^k)) rfl rfl rfl HB2.o.load ?_;exact⟨rfl,aI HG2.o⟩
theorem ofQ(s:ByteArray)(hs:s.size<=1000000)(w:World):Calls prog 119 #[.string s] w (cI (ofS (bys s)) w):=by
 have hix:=fun(i:Nat) (h:i<s.size) (W:World)=>e6 (P:=prog) 9 underlying9 h W;have HIX:=qa hix;have HT0:Hid (∀k,k<s.size->ofS ((bys s).take (k+1))=ofS ((bys s).take k)|||2^((bys s).getD k 0).toNat):=qa (fun k h=>by rw[aY (bys s) k 0 (by rw[aP];exact h),q5M]);have HTE:Hid ((bys s).take s.size=bys s):=qa (by rw[<-aP,qX]);have hz:=gZ;obtain⟨Z,hZ⟩:∃Z,Z=z4:=⟨_,rfl⟩;rw[<-hZ]at hz;have h00:=q9o w 0 Z Z hZ hZ;have HA0:=qa h00.1;have HB0:=qa h00.2;have HBL:Hid (Below w.heap.size w ((w.alloc (.cells Z 63)).alloc (.cells Z 63))):=qa aJ;have HWQ:Hid (∀(x:Nat) (c:UInt8) W,Calls prog 137 #[cD x,.int .u8 (c.toNat:Nat)] W (cI (x|||2^c.toNat) W)):=qa (fun x c W=>q7V x c W);clear hix hZ h00;generalize bys s=l at*;go_enter func119,ntmps119;go_wp2
 go_loopg [4] (s.size+1) (fun gk i wr=>∃k:Nat,k<=s.size/\i=.int .i64 k/\eX wr (w.heap.size+1) (ofS (l.take k))/\eX wr w.heap.size 0/\Below w.heap.size w wr/\gk=s.size+1-k)
 case atStart=>exact⟨0,by omega,rfl,HB0.o,HA0.o,HBL.o,rfl⟩
 case round=>
  clear HA0 HB0 HBL;obtain⟨k,hk,rfl,hB,hA,qbe,rfl⟩:=hrel;have HB:=qa hB;have HA:=qa hA;have HBL:=qa qbe;have hsz:=qbe.size;clear hA qbe hB;by_cases hlt:k<s.size
  ·have qbJ:=HIX.o k hlt
   have HT:=qa (HT0.o k hlt);generalize l.getD k 0=d at*;generalize ofS (l.take k)=x at*;have HG0:Hid (wr.grownBy wr (some (w.heap.size+1))):=qa (cW _ _);go_wp2;refine aT [0,1,2,3] [4] [5] (by kernel_rfl) (by kernel_rfl) ?_;simp only[pk];go_simp
   repeat(first
    |(go_big_quiet_want;refine bH _ rfl (w.heap.size+1) rfl x (fun w' hw=>by obtain⟨y,rfl⟩:=hw;exact HB.o.up (aB ⟨_,rfl⟩)) ?_;go_simp;go_big_quiet_on)
    |(go_big_quiet_step (fail)))
   refine wpQuiet_nil ?_;unfold aG
   go_wp2_with((with_reducible refine(HWQ.o _ _ _).mono ?_);rintro e w3 ⟨rfl,hx⟩;have hb3:=cP (aN wr 1) (aB hx);have HB3:=qa (HB.o.up hb3);have HA3:=qa (HA.o.up hb3);have qbt:=qa (HBL.o.trans (hb3.mono hsz));have HX3:=qa hb3;clear hx hb3)
   refine⟨aI HX3.o,?_⟩;unfold aG;unfold aG
   go_wp2_with(refine aF rfl _ _ rfl (w.heap.size+1) rfl x _ rfl HB3.o ?_;intro w4 hB2 hg2;have HB4:=qa hB2;have HA4:=qa (HA3.o.keep hg2 (by simp));have qgo:=qa (qbt.o.grown hg2 qbt.o.size (fun q e=>by cases e;exact ja _));clear hB2 hg2)
   refine⟨trivial,?_⟩;unfold aG;go_wp2
   go_roundg (s.size-k)
   case rel=>exact⟨k+1,by omega,by go_num,by rw[HT.o];exact HB4.o,HA4.o,qgo.o,by omega⟩
   case measure=>omega
  obtain rfl:k=s.size:=by omega
  rw[HTE.o]at HB
  go_wp2_with(first|(refine aQ rfl _ rfl (w.heap.size+1) rfl _ HB.o ?_)|(refine aF rfl _ _ rfl w.heap.size rfl _ _ rfl HA.o ?_;intro w2 hB2 hg2;have HB2:=qa hB2;have HG2:=qa hg2;clear hB2 hg2))
  refine bG (s:=2) (ad:=⟨w.heap.size,0,none⟩) (x:=cD (ofS l)) rfl rfl rfl HB2.o.load ?_;exact⟨rfl,aI (HBL.o.grown HG2.o HBL.o.size (fun k hk=>by cases hk;exact qb _))⟩
theorem q7W{a b k:Nat}(hk:k<=256)(h:b<k\/k=256):Y2 a b k=gS a b:=by
 refine jl fun i=>?_;rw[J0,q3q];by_cases h1:a<=i/\i<=b
 ·by_cases h2:i<256
  ·rw[qw h2,qw (show i<k by omega)]
  rw[qu h2,qu (show¬i<k by omega)]
 rw[qu h1];simp
theorem q4d(a b:Nat):Y2 a b a=0:=by
 refine jl fun i=>?_;rw[J0,Nat.zero_testBit];by_cases h1:a<=i/\i<=b
 ·rw[qu (show¬i<a by omega)];simp
 rw[qu h1];simp
theorem T4(a b:UInt8)(w:World):Calls prog 135 #[.int .u8 (a.toNat:Nat),.int .u8 (b.toNat:Nat)] w (cI (gS a.toNat b.toNat) w):=by
 have hz:=gZ;obtain⟨Z,hZ⟩:∃Z,Z=z4:=⟨_,rfl⟩;rw[<-hZ]at hz;have h00:=q9o w 0 Z Z hZ hZ;have HA0:=qa h00.1;have HB0:=qa h00.2;have HBL:Hid (Below w.heap.size w ((w.alloc (.cells Z 63)).alloc (.cells Z 63))):=qa aJ
 have HWQ:Hid (∀(x k:Nat) W,k<256->Calls prog 137 #[cD x,.int .u8 (k:Nat)] W (cI (x|||2^k) W)):=qa (fun x k W hk=>by
  have:=q7V x (UInt8.ofNat k) W;rwa [show(UInt8.ofNat k).toNat=k by simp;omega]at this)
 have ha:=a.toNat_lt;have hb:=b.toNat_lt;generalize a.toNat=a at*;generalize b.toNat=b at*;have HZ:=qa (q4d a b);have HE:=qa (fun k h1 h2=>@q7W a b k h1 h2);clear hZ h00;go_enter func135,ntmps135;go_wp2
 go_loopg [6] (257-a) (fun gk i wr=>∃k:Nat,k<=256/\a<=k/\i=.int .i64 k/\eX wr (w.heap.size+1) (Y2 a b k)/\eX wr w.heap.size 0/\Below w.heap.size w wr/\gk=257-k)
 case atStart=>exact⟨a,by omega,qb _,rfl,by rw[HZ.o];exact HB0.o,HA0.o,HBL.o,rfl⟩
 case round=>
  clear HA0 HB0 HBL;obtain⟨k,hk,hak,rfl,hB,hA,qbe,rfl⟩:=hrel;have HB:=qa hB;have HA:=qa hA;have HBL:=qa qbe;have hsz:=qbe.size;clear hA qbe hB;by_cases hlt:k<=b
  ·have HK:=qa (yG a b k)
   rw[qt ⟨hak,hlt⟩]at HK;generalize Y2 a b k=x at*;have HWK:=qa (fun W=>HWQ.o x k W (by omega))
   go_wp2_with(first
    |(refine aQ rfl _ rfl (w.heap.size+1) rfl _ HB.o ?_)
    |((with_reducible refine(HWK.o _).mono ?_);rintro e w3 ⟨rfl,hx⟩;have hb3:=aB hx;have HB3:=qa (HB.o.up hb3);have HA3:=qa (HA.o.up hb3);have qbt:=qa (HBL.o.trans (hb3.mono hsz));clear hx hb3)
    |(refine aF rfl _ _ rfl (w.heap.size+1) rfl x _ rfl HB3.o ?_;intro w4 hB2 hg2;have HB4:=qa hB2;have HA4:=qa (HA3.o.keep hg2 (by simp));have qgo:=qa (qbt.o.grown hg2 qbt.o.size (fun q e=>by cases e;exact ja _));clear hB2 hg2))
   go_roundg (256-k)
   case rel=>exact⟨k+1,by omega,by omega,by go_num,by rw[HK.o];exact HB4.o,HA4.o,qgo.o,by omega⟩
   case measure=>omega
  rw[HE.o k hk (.inl (by omega))]at HB
  go_wp2_with(first|(refine aQ rfl _ rfl (w.heap.size+1) rfl _ HB.o ?_)|(refine aF rfl _ _ rfl w.heap.size rfl _ _ rfl HA.o ?_;intro w2 hB2 hg2;have HB2:=qa hB2;have HG2:=qa hg2;clear hB2 hg2))
  refine bG (s:=4) (ad:=⟨w.heap.size,0,none⟩) (x:=cD (gS a b)) rfl rfl rfl HB2.o.load ?_;exact⟨rfl,aI (HBL.o.grown HG2.o HBL.o.size (fun k hk=>by cases hk;exact qb _))⟩
def edX(x:Nat):Ed:=⟨0,false,(wdR x 0:Nat),(wdR x 1:Nat),(wdR x 2:Nat),(wdR x 3:Nat)⟩
theorem qb5(x k:Nat)(hk:k<256):tI (edX x) k=x.testBit k:=by
 have e:tI (edX x) k=(((wdR x (k/64):Nat):Int)/2^(k%64)%2==1):=by
  unfold tI edX
  have h2:(if k<64 then((wdR x 0:Nat):Int)else if k<128 then((wdR x 1:Nat):Int)else if k<192 then((wdR x 2:Nat):Int)else((wdR x 3:Nat):Int))=((wdR x (k/64):Nat):Int):=by
   (repeat' split)<;>first|(rw[show k/64=0 by omega])|(rw[show k/64=1 by omega])|(rw[show k/64=2 by omega])|(rw[show k/64=3 by omega])
  rw[<-h2]
 have h3:=P8 x (k/64) (k%64);rw[qw (jT k (by decide)),j3,show 64*(k/64)+k%64=k by omega]at h3;rw[e,<-h3,Nat.testBit_eq_decide_div_mod_eq];have h4:((wdR x (k/64):Nat):Int)/2^(k%64)%2=((wdR x (k/64)/2^(k%64)%2:Nat):Int):=by norm_cast
 rw[h4,jh];simp;omega
theorem qaD(x k:Nat)(hk:k<256)(w:World):Calls prog 96 #[cD x,.int .u8 (k:Nat)] w fun e w'=>e=.returned (.bool (x.testBit k))/\∃y,w'=ext w y:=by
 have:=qaN (w:=w) (edX x) (fun q=>by unfold mJ edX;simp only;(repeat' split)<;>omega) k hk;rw[qb5 x k hk]at this;exact this
theorem q4e (x : Nat) (w : World) : Calls prog 134 #[cD x] w fun e w' => e = .returned (.string ⟨(rB x 256).toArray⟩) ∧ ∃ y, w' = ext w y := by
  obtain ⟨X, hX⟩ : ∃ X, X = (wsV x).toArray := ⟨_, rfl⟩
  have HB0 : Hid (eX (w.alloc (.cells X 63)) w.heap.size x) := qa (by rw [hX]; exact gF w x)
  have HB1 : Hid (Below w.heap.size w (w.alloc (.cells X 63))) := qa (aA _ _)
  have HHQ : Hid (∀ k W, k < 256 → Calls prog 96 #[cD x, .int .u8 (k : Nat)] W fun e w' => e = .returned (.bool (x.testBit k)) ∧ ∃ y, w' = ext W y) := qa (fun k W hk => qaD x k hk W)
  rw [show cD x = .agg X by rw [hX]; rfl]
  clear hX
  go_enter func134, ntmps134
  go_wp2
  go_loopg [3, 4] 257 (fun gk vb iv wr => ∃ k : Nat, k ≤ 256 ∧ iv = .int .i64 k ∧ Own wr w.heap.size 5 vb (cK (rB x k)) ∧ eX wr w.heap.size x ∧ (∀ q, vb.ownBlock = some q → w.heap.size < q) ∧ Below w.heap.size w wr ∧ gk = 257 - k)
  case atStart => exact ⟨0, by omega, rfl, Own.nil _ _ _, HB0.o, (by intro q h; cases h), HB1.o, rfl⟩
  case round =>
    clear HB0 HB1
    obtain ⟨k, hk, rfl, hO, hS, hq, hB, rfl⟩ := hrel
    have HO := qa hO
    have HS := qa hS
    have HB := qa hB
    have HQ := qa hq
    clear hO hS hB hq
    by_cases hlt : k < 256
    · have HHK := qa (fun W => HHQ.o k W hlt)
      have HK := qa (T3 x k)
      have HL := qa (tG x k)
      cases hb : x.testBit k with
      | true =>
        rw [hb] at HHK HK
        have HBV : Hid (cK (rB x (k + 1)) = cK (rB x k) ++ [Value.int .u8 (k : Int)]) := qa (by
          rw [HK.o, qt rfl, mZ, q0L k hlt])
        have HBL : Hid ((cK (rB x k)).length ≤ 256) := qa (by have := HL.o; rw [dA]; omega)
        clear HK HL hb
        generalize cK (rB x k) = bs at *
        go_wp2_with (first
          | (refine aQ rfl _ rfl w.heap.size rfl _ HS.o ?_)
          | ((with_reducible refine (HHK.o _).mono ?_); rintro e w3 ⟨rfl, hx3⟩; have hb3 := aB hx3; have HO3 := qa (HO.o.up hb3); have HS3 := qa (HS.o.up hb3); have HB3 := qa (HB.o.trans (hb3.mono HB.o.size)); clear hx3 hb3
             have hlW := qa (aA w3 (.cells #[.int .u8 (k : Int)] 5))
             have HX : Hid (Sl (w3.alloc (.cells #[.int .u8 (k : Int)] 5)) (.slice (some ⟨w3.heap.size, 0, none⟩) 1 1) [.int .u8 (k : Int)]) := qa (by simpa using dY w3 #[.int .u8 (k : Int)] 5 (by simp))
             have HO4 := qa (HO3.o.up hlW.out); have HS4 := qa (HS3.o.up hlW.out); have HB4 := qa (HB3.o.trans (hlW.out.mono HB3.o.size))
             have HLE : Hid (bs.length + [Value.int .u8 (k : Int)].length ≤ 4294967296) := qa (by have := HBL.o; simp; omega))
          | (at_builtin; refine bM rfl (.tmp 13) (.tmp 16) 143 rfl w.heap.size 5 (.int .u8 0) 1 underlying143 (by kernel_rfl) rfl (by decide) _ bs rfl HO4.o (.slice (some ⟨w3.heap.size, 0, none⟩) 1 1) [.int .u8 (k : Int)] rfl HX.o (by intro u hu; simp only [jd] at hu; subst hu; rfl) HLE.o HB4.o.size ?_; intro v' w5 hown1 hg1 hk1; have HO5 := qa hown1; have HQ5 : Hid (∀ q, v'.ownBlock = some q → w.heap.size < q) := qa (fun q e => (hk1 q e).elim (fun h => HQ.o q h) (fun h => by have := HS4.o.lt; omega)); have HS5 := qa (HS4.o.keep hg1 (fun e => by have := HQ.o _ e; omega)); have HB5 := qa (HB4.o.grown hg1 HB4.o.size (fun q e => jn (HQ.o q e))); clear hown1 hg1 hk1))
        go_roundg (256 - k)
        case measure => omega
        case rel => exact ⟨k + 1, by omega, by go_num, by rw [HBV.o]; exact HO5.o, HS5.o, HQ5.o, HB5.o, by omega⟩
      | false =>
        rw [hb] at HHK HK
        have HBV : Hid (rB x (k + 1) = rB x k) := qa (by rw [HK.o]; simp)
        clear HK HL hb
        go_wp2_with (first
          | (refine aQ rfl _ rfl w.heap.size rfl _ HS.o ?_)
          | ((with_reducible refine (HHK.o _).mono ?_); rintro e w3 ⟨rfl, hx3⟩; have hb3 := aB hx3; have HO3 := qa (HO.o.up hb3); have HS3 := qa (HS.o.up hb3); have HB3 := qa (HB.o.trans (hb3.mono HB.o.size)); clear hx3 hb3))
        go_roundg (256 - k)
        case measure => omega
        case rel => exact ⟨k + 1, by omega, by go_num, by rw [HBV.o]; exact HO3.o, HS3.o, HQ.o, HB3.o, by omega⟩
    · obtain rfl : k = 256 := by omega
      have hcv := fI (P := prog) wr 143 9 5 underlying143 underlying5 underlying9 _ _ HO.o.sl
      go_wp2
      go_ret
      exact ⟨rfl, aI HB.o⟩
theorem qaE{x:Nat}(hx:x<2^256)(w:World):Calls prog 118 #[cD x] w (cI (mP x) w):=by
 have hz:=gZ;obtain⟨Z,hZ⟩:∃Z,Z=z4:=⟨_,rfl⟩;rw[<-hZ]at hz;obtain⟨X,hX⟩:∃X,X=(wsV x).toArray:=⟨_,rfl⟩;have h1:=q9o w x X Z hX hZ;have H0:Hid (eX (((w.alloc (.cells X 63)).alloc (.cells Z 63)).alloc (.cells Z 63)) w.heap.size x):=qa (h1.1.up (aA _ _));have H1:Hid (eX (((w.alloc (.cells X 63)).alloc (.cells Z 63)).alloc (.cells Z 63)) (w.heap.size+1) 0):=qa (h1.2.up (aA _ _))
 have H2:Hid (eX (((w.alloc (.cells X 63)).alloc (.cells Z 63)).alloc (.cells Z 63)) (w.heap.size+2) 0):=qa (by
  have:=cL ((w.alloc (.cells X 63)).alloc (.cells Z 63)) Z hZ;rwa [show((w.alloc (.cells X 63)).alloc (.cells Z 63)).heap.size=w.heap.size+2 by simp]at this)
 have HBL:Hid (Below w.heap.size w (((w.alloc (.cells X 63)).alloc (.cells Z 63)).alloc (.cells Z 63))):=qa aJ;have HHQ:Hid (∀k W,k<256->Calls prog 96 #[cD x,.int .u8 (k:Nat)] W fun e w'=>e=.returned (.bool (x.testBit k))/\∃y,w'=ext W y):=qa (fun k W hk=>qaD x k hk W)
 have HWQ:Hid (∀(y k:Nat) W,k<256->Calls prog 137 #[cD y,.int .u8 (k:Nat)] W (cI (y|||2^k) W)):=qa (fun y k W hk=>by
  have:=q7V y (UInt8.ofNat k) W;rwa [show(UInt8.ofNat k).toNat=k by simp;omega]at this)
 have HE:=qa (q5Q hx);rw[<-HE.o,show cD x=.agg X by rw[hX];rfl];clear hX hZ h1;go_enter func118,ntmps118;go_wp2
 go_loopg [4] 257 (fun gk iv wr=>∃k:Nat,k<=256/\iv=.int .i64 k/\eX wr w.heap.size x/\eX wr (w.heap.size+1) 0/\eX wr (w.heap.size+2) (q5P x k)/\Below w.heap.size w wr/\gk=257-k)
 case atStart=>exact⟨0,by omega,rfl,H0.o,H1.o,H2.o,HBL.o,rfl⟩
 case round=>
  clear H0 H1 H2 HBL;obtain⟨k,hk,rfl,h0,h1,h2,hB,rfl⟩:=hrel;have H0:=qa h0;have H1:=qa h1;have H2:=qa h2;have HB:=qa hB;clear h0 h1 h2 hB;by_cases hlt:k<256
  ·have HHK:=qa (fun W=>HHQ.o k W hlt)
   have HK:=qa (q4c x k);cases hb:x.testBit k with
   |true=>
    rw[hb]at HHK HK;rw[qt rfl]at HK;clear hb
    go_wp2_with(first
     |(refine aQ rfl _ rfl w.heap.size rfl _ H0.o ?_)
     |((with_reducible refine(HHK.o _).mono ?_);rintro e w3 ⟨rfl,hx3⟩;have hb3:=aB hx3;have H03:=qa (H0.o.up hb3);have H13:=qa (H1.o.up hb3);have H23:=qa (H2.o.up hb3);have HB3:=qa (HB.o.trans (hb3.mono HB.o.size));clear hx3 hb3))
    go_roundg (256-k)
    case measure=>omega
    case rel=>exact⟨k+1,by omega,by go_num,H03.o,H13.o,by rw[HK.o];exact H23.o,HB3.o,by omega⟩
   |false=>
    rw[hb]at HHK HK;rw[qr (by simp)]at HK;clear hb;generalize q5P x k=y at*;have HWK:=qa (fun W=>HWQ.o y k W hlt)
    go_wp2_with(first
     |(refine aQ rfl _ rfl w.heap.size rfl _ H0.o ?_)
     |((with_reducible refine(HHK.o _).mono ?_);rintro e w3 ⟨rfl,hx3⟩;have hb3:=aB hx3;have H03:=qa (H0.o.up hb3);have H13:=qa (H1.o.up hb3);have H23:=qa (H2.o.up hb3);have HB3:=qa (HB.o.trans (hb3.mono HB.o.size));clear hx3 hb3)
     |(refine aQ rfl _ rfl (w.heap.size+2) rfl _ H23.o ?_)
     |((with_reducible refine(HWK.o _).mono ?_);rintro e w4 ⟨rfl,hx3⟩;have hb3:=aB hx3;have H04:=qa (H03.o.up hb3);have H14:=qa (H13.o.up hb3);have H24:=qa (H23.o.up hb3);have HB4:=qa (HB3.o.trans (hb3.mono HB3.o.size));clear hx3 hb3)
     |(refine aF rfl _ _ rfl (w.heap.size+2) rfl y _ rfl H24.o ?_;intro w5 hB2 hg2;have H25:=qa hB2;have H05:=qa (H04.o.keep hg2 (by simp));have H15:=qa (H14.o.keep hg2 (by simp));have HB5:=qa (HB4.o.grown hg2 HB4.o.size (fun q e=>by cases e;omega));clear hB2 hg2))
    go_roundg (256-k)
    case measure=>omega
    case rel=>exact⟨k+1,by omega,by go_num,H05.o,H15.o,by rw[HK.o];exact H25.o,HB5.o,by omega⟩
  obtain rfl:k=256:=by omega
  go_wp2_with(first|(refine aQ rfl _ rfl (w.heap.size+2) rfl _ H2.o ?_)|(refine aF rfl _ _ rfl (w.heap.size+1) rfl _ _ rfl H1.o ?_;intro w2 hB2 hg2;have HB2:=qa hB2;have HG2:=qa hg2;clear hB2 hg2))
  refine bG (s:=2) (ad:=⟨w.heap.size+1,0,none⟩) (x:=cD (q5P x 256)) rfl rfl rfl HB2.o.load ?_;exact⟨rfl,aI (HB.o.grown HG2.o HB.o.size (fun k hk=>by cases hk;exact ja _))⟩
end Go.Cm
