/- Walks of functions and plain facts, joined and squeezed by a program. Conditions: as each says. -/
import Derived.StringKeys
import Derived.Deep.CutBlock
import Derived.Laws.RangeAny
import Derived.Test.YtiladjhipahiiaaDMXE
import Derived.Test.YtiladjhipahiiaaDMXF
import Derived.Test.YtiladjhipahiiaaDMXG
import Derived.Test.YtiladjhipahiiaaDMXC
set_option maxHeartbeats 8000000
set_option maxRecDepth 100000
set_option linter.unusedSimpArgs false
open Go.Proofs.Try
namespace Go.Cm
theorem ZmH0{P:Prop}(h:P:=by
 repeat(go_big_quiet_step ((go_at_call 68;(with_reducible exact cC (q8l.o _ (HE1.o.box.up (aC _ _)))))))
 refine wpQuiet_nil ?_;intro w2 hw2;have HE2:=qa (HE1.o.ext hw2);have c12:=HE2.o.box.c1;clear hw2 c0 c1 hg1
 go_wp2_with(first
  |((with_reducible refine(HF.o _ HE2.o.box).mono ?_);rintro e w3 ⟨rfl,hB,hg⟩;have HE3:=qa (HE2.o.act hB hg);clear hB hg)
  |(refine aL rfl _ _ rfl w.heap.size rfl _ 0 HZV.o HE3.o.set ?_;intro w4 hB2 hg2;have HE4:=qa (HE3.o.store hB2 hg2);clear hB2 hg2))
 refine bB (s:=2) (b:=3) (ad:=⟨w.heap.size,0,none⟩) (x:=dU 0) (y:=.bool false) rfl rfl rfl rfl HE4.o.set.load ?_;exact⟨0,false,_,rfl,HL0.o,HE4.o.qs,Al.fault _ HR.o HPF.o.2.2 HPF.o.1 HPF.o.2.1⟩):P:=h
theorem ZmH1{P:Prop}(h:P:=by
 have hr' := hr.symm
 clear hr HHB HR3 HXR q6i
 go_wp2_with (first
   | ((with_reducible refine (HH1.o _).mono ?_); rintro e w2 ⟨rfl, hx⟩; have HE2 := qa (HE0.o.ext hx); have c22 := HE2.o.box.c0; clear hx)
   | ((with_reducible refine (HH2.o _).mono ?_); rintro e w3 ⟨rfl, hx⟩; have HE3 := qa (HE2.o.ext hx); clear hx))
 go_meet
 case rel => exact ⟨by rw [HB2.o], HE3.o⟩):P:=h
theorem ZmH2{P:Prop}(h:P:=by
 go_wp2_with((with_reducible refine(HF2.o _ _ H8.o.box).mono ?_);rintro e w9 ⟨rfl,hB,hg⟩;have H9:=qa (H8.o.act hB hg);clear hB hg)
 go_ret2
 rw[HRR.o];exact H9.o.ret rfl):P:=h
theorem ZmH3{P:Prop}(h:P:=by
 have q67:=HIX.o k hlt
 have HTK:=qa (HT.o k hlt);have HMK:=qa (HM.o k hlt);generalize l.getD k 0=d at*;by_cases hd:d=c
 ·subst hd
  go_wp2;go_ret;exact⟨by rw[HR.o,qy HMK.o];rfl,cB _⟩
 have hne:=kO hd;go_wp2
 go_round
 case rel=>exact⟨k+1,by omega,by go_num,HTK.o hd HN.o⟩
 case measure=>simp[intOf];omega):P:=h
theorem ZmH4{P:Prop}(h:P:=by
 unfold kV kF
 have h2:(if c<64 then x.a else if c<128 then x.b else if c<192 then x.c else x.d)=(if c/64=0 then x.a else if c/64=1 then x.b else if c/64=2 then x.c else x.d):=by
  (repeat' split)<;>first|rfl|omega
 rw[h2]):P:=h
theorem ZmH5{P:Prop}(h:P:=by
 intro q hq;rcases h.1.2 with⟨h1,_⟩|⟨g,cap,cur,h1,_,hg,_⟩
 ·rw[h1]at hq;cases hq
 rw[h1]at hq;have:g=q:=by simpa[Value.ownBlock]using hq
 subst this;exact⟨cur,hg⟩):P:=h
theorem ZmH6{P:Prop}(h:P:=by unfold kF;rcases(show c/64=0\/c/64=1\/c/64=2\/c/64=3 by omega)with h|h|h|h<;>rw[h]<;>rfl):P:=h
theorem ZmH7{P:Prop}(h:P:=by clear h2;go_enter func96,ntmps96;go_wp2;go_ret;exact⟨HE2.o,(aF aS)⟩):P:=h
theorem ZmH8{P:Prop}(h:P:=by go_wp2;go_ret;rw[HL.o]at HN;exact⟨by rw[HR.o,qw HN.o];rfl,cB _⟩):P:=h
def lV:Lng:=fun _=>False
def I9(Ls:List Lng):Nat->Lng
 |0=>eps
 |i+1=>cat (I9 Ls i) (Ls.getD i lV)
def uP(Ls:List Lng)(i:Nat):Lng:=fun w=>∃j,j<i/\Ls.getD j lV w
def bM(lo hi:Int)(L:Lng):Lng:=fun w=>∃k:Nat,lo<=k/\(hi<0\/(k:Int)<=hi)/\mW L k w
def q29(x:Nd):Lng:=fun w=>∃c,w=[c]/\kV (bW x 0) c=true
def cQ(x:Nd)(Ls:List Lng):Lng:=
 if x.kd=1 then q29 x else if x.kd=2 then eps else if x.kd=8 then bM x.lo x.hi (Ls.getD 0 lV)
 else if x.kd=5 then bM 0 (-1) (Ls.getD 0 lV)else if x.kd=6 then bM 1 (-1) (Ls.getD 0 lV)else if x.kd=7 then bM 0 1 (Ls.getD 0 lV)
 else if x.kd=3 then I9 Ls Ls.length else uP Ls Ls.length
def aX:Fo->List Lng
 |.nil=>[]
 |.cons x k r=>cQ x (aX k)::aX r
theorem lG:∀f,(aX f).length=cnt f
 |.nil=>rfl
 |.cons x k r=>by simp[aX,cnt,lG r]
def WQ(z:Int):Prop:=0<=z/\z<18446744073709551616
def EdQ(x:Ed):Prop:=(x.free=true->x.a=0/\x.b=0/\x.c=0/\x.d=0)/\(WQ x.a/\WQ x.b/\WQ x.c/\WQ x.d)
def NdQ(x:Nd):Prop:=WQ x.a/\WQ x.b/\WQ x.c/\WQ x.d
theorem uQ:WQ 0:=⟨Int.le_refl _,by decide⟩
structure O0(s:St)(y:Pc×St)(L:Lng):Prop where
 grow:s.e.length<=y.2.e.length
 old:∀a,a<s.e.length->Row y.2.e a=Row s.e a
 hf:s.e.length<=y.1.f/\y.1.f<y.2.e.length
 hl:s.e.length<=y.1.l/\y.1.l<y.2.e.length
 nol:Row y.2.e y.1.l=[]
 inn:∀a x,s.e.length<=a->x∈Row y.2.e a->∃b:Nat,x.tgt=b/\s.e.length<=b/\b<y.2.e.length
 edq:∀a x,s.e.length<=a->x∈Row y.2.e a->EdQ x
 lang:∀w,kS y.2.e y.1.f w y.1.l↔L w
 rul:y.2.r=s.r++List.replicate (y.2.e.length-s.e.length) (-1)
structure q2a(s:St)(y:List Pc×St)(Ls:List Lng)(bd:Nat->Nat):Prop where
 len:y.1.length=Ls.length
 b0:bd 0=s.e.length
 bc:bd Ls.length=y.2.e.length
 mono:∀i,i<Ls.length->bd i<=bd (i+1)
 old:∀a,a<s.e.length->Row y.2.e a=Row s.e a
 hf:∀i,i<Ls.length->bd i<=(y.1.getD i zP).f/\(y.1.getD i zP).f<bd (i+1)
 hl:∀i,i<Ls.length->bd i<=(y.1.getD i zP).l/\(y.1.getD i zP).l<bd (i+1)
 nol:∀i,i<Ls.length->Row y.2.e (y.1.getD i zP).l=[]
 inn:∀i,i<Ls.length->∀a x,bd i<=a->a<bd (i+1)->x∈Row y.2.e a->∃b:Nat,x.tgt=b/\bd i<=b/\b<bd (i+1)
 edq:∀a x,s.e.length<=a->x∈Row y.2.e a->EdQ x
 lang:∀i,i<Ls.length->∀w,kS y.2.e (y.1.getD i zP).f w (y.1.getD i zP).l↔Ls.getD i lV w
 rul:y.2.r=s.r++List.replicate (y.2.e.length-s.e.length) (-1)
theorem q2a.mono' {s : St} {y : List Pc × St} {Ls : List Lng} {bd : Nat → Nat} (h : q2a s y Ls bd) : ∀ i j, i ≤ j → j ≤ Ls.length → bd i ≤ bd j := by
  intro i j hij hj
  induction j with
  | zero => obtain rfl : i = 0 := by omega
            exact qb _
  | succ j ih =>
    rcases Nat.eq_or_lt_of_le hij with rfl | h1
    · exact qb _
    · exact qc (ih (by omega) (by omega)) (h.mono j (by omega))
end Go.Cm
namespace Go.Cm
section
variable {s : St} {y : List Pc × St} {Ls : List Lng} {bd : Nat → Nat}
theorem q2a.blk(h:q2a s y Ls bd){a:Nat}:∀i,i<=Ls.length->bd 0<=a->a<bd i->∃j,j<i/\bd j<=a/\a<bd (j+1)
 |0,_,h1,h2=>by omega
 |i+1,hi,h1,h2=>by
  by_cases h3:a<bd i
  ·obtain⟨j,hj,h4⟩:=q2a.blk h i (by omega) h1 h3
   exact⟨j,by omega,h4⟩
  exact⟨i,by omega,by omega,h2⟩
theorem q2a.cls(h:q2a s y Ls bd){i:Nat}(hi:i<=Ls.length){a:Nat}{x:Ed}(h1:bd 0<=a)(h2:a<bd i)(hx:x∈Row y.2.e a):∃b:Nat,x.tgt=b/\bd 0<=b/\b<bd i:=by
 obtain⟨j,hj,h3,h4⟩:=h.blk i hi h1 h2;obtain⟨b,h5,h6,h7⟩:=h.inn j (by omega) a x h3 h4 hx;have:=h.mono' 0 j (by omega) (by omega);have:=h.mono' (j+1) i (by omega) hi;exact⟨b,h5,by omega,by omega⟩
end
end Go.Cm
namespace Go.Cm
theorem mX(L:Lng)(a:Nat):∀(b:Nat) (w:List Nat),mW L (a+b) w↔cat (mW L a) (mW L b) w
 |0,w=>(rS _ w).symm
 |b+1,w=>by
  show cat (mW L (a+b)) L w↔cat (mW L a) (cat (mW L b) L) w;rw[dY (mX L a b) (fun _=>Iff.rfl),wK]
end Go.Cm
namespace Go.Cm
open Go.RowKit Go.Proofs
theorem J1(p:Nat->Bool)(j:Nat):((List.range j).filter p).length<=j:=qc (jY _ _) (by simp)
def iJ:Ed:=⟨0,false,0,0,0,0⟩
def q5t(n:Nat)(x:Ed):Bool:=decide (0<=x.tgt/\x.tgt<n)&&(!x.free||decide (x.a=0/\x.b=0/\x.c=0/\x.d=0))
def q3j(n:Nat)(r:Int)(row:List Ed):Bool:=decide (-1<=r/\r<32)&&row.all (q5t n)
def q3k(e:List (List Ed))(F:Int)(r:List Int):Bool:=decide (1<=e.length/\e.length<=3000/\r.length=e.length/\0<=F/\F<e.length)
def q1r(e:List (List Ed))(F:Int)(r:List Int):Bool:=q3k e F r&&(List.range e.length).all fun i=>q3j e.length (r.getD i 0) (e.getD i [])
theorem oO.open{w:World}{v:Value}{ll:List (List Ed)}(h:oO w v ll):
  ∃oa cap b off,v=.slice oa ll.length cap/\Hd w oa ll.length cap b off/\∀i,i<ll.length->
   ∃oi ci bi fi,w.cell? ⟨b,off+i,none⟩=some (.slice oi (ll.getD i []).length ci)/\Hd w oi (ll.getD i []).length ci bi fi/\∀j,j<(ll.getD i []).length->∀c,c<6->w.cell? ⟨bi,fi+j*6+c,none⟩=some ((edC ((ll.getD i []).getD j iJ)).getD c undef):=by
 obtain⟨vs,⟨oa,cap,b,off,rfl,hd,hc⟩,h2,h3⟩:=h;rw[h2]at hd hc⊢;refine⟨oa,cap,b,off,rfl,hd,fun i hi=>?_⟩;obtain⟨oi,ci,bi,fi,he,hdi,hci⟩:=h3 i hi;rw[qA]at he hdi hci;refine⟨oi,ci,bi,fi,by rw[hc i hi,he],hdi,fun j hj c hcl=>?_⟩;rw[hci j hj c hcl]
 have e1:((ll.getD i []).map edC).getD j []=edC ((ll.getD i []).getD j iJ):=by
  generalize ll.getD i []=row at*;simp[List.getD,hj]
 rw[e1]
def q3l(e:List (List Ed))(a b:Nat):Prop:=∃x∈e.getD a [],x.free=true/\x.tgt=b
inductive Rch(e:List (List Ed))(S:Nat->Prop):Nat->Prop
 |base {b:Nat}:S b->Rch e S b
 |step {a b:Nat}:Rch e S a->q3l e a b->Rch e S b
noncomputable def mK(n:Nat)(P:Nat->Prop):List Nat:=(List.range n).filter fun i=>@decide (P i) (Classical.propDecidable _)
theorem r0{n:Nat}{P:Nat->Prop}{i:Nat}:i∈mK n P↔i<n/\P i:=by simp[mK]
theorem q0v(n:Nat)(P:Nat->Prop):(mK n P).length<=n:=qc (jY _ _) (by simp)
theorem Rch.mono{e:List (List Ed)}{S T:Nat->Prop}(h:∀i,S i->T i){b:Nat}(hb:Rch e S b):Rch e T b:=by
 induction hb with
 |base h1=>exact .base (h _ h1)
 |step _ h2 ih=>exact .step ih h2
def On(m:List Int)(i:Nat):Prop:=m.getD i 0=1
structure q3m(n:Nat)(m:List Int):Prop where
 len:m.length=n
 bit:∀i,m.getD i 0=0\/m.getD i 0=1
theorem On.lt{n:Nat}{m:List Int}(hb:q3m n m){i:Nat}(h:On m i):i<n:=by
 apply qi;intro hn;unfold On at h;rw[qt,qP (by have:=hb.len;omega)]at h;cases h
def By(e:List (List Ed))(S:Nat->Prop)(c:Nat)(b:Nat):Prop:=∃a,S a/\∃x∈e.getD a [],x.free=false/\kV x c=true/\x.tgt=b
theorem B0(v:Int):bits .and .u64 v 1=v%2:=by
 have h1:(BitVec.ofInt 64 v&&&BitVec.ofInt 64 1).toNat=(BitVec.ofInt 64 v).toNat%2:=by
  rw[BitVec.toNat_and];exact Nat.and_one_is_mod _
 have h2:((BitVec.ofInt 64 v).toNat:Int)=v%18446744073709551616:=by
  rw[BitVec.toNat_ofInt];exact Int.toNat_of_nonneg (Int.emod_nonneg _ (by decide))
 show IntKind.u64.wrap ((BitVec.ofInt 64 v&&&BitVec.ofInt 64 1).toNat:Int)=v%2;rw[h1,IntKind.wrap_u64];omega
def kF(x:Ed)(q:Nat):Int:=if q=0 then x.a else if q=1 then x.b else if q=2 then x.c else x.d
theorem q0w{w:World}(x:Ed)(c:Nat)(hc:c<256):
  Calls prog 48 #[.agg #[.int .u64 x.a,.int .u64 x.b,.int .u64 x.c,.int .u64 x.d],.int .u8 c] w fun e w'=>e=.returned (.bool (kV x c))/\∃x,w'=ext w x:=by
 have h1:=B0
 have hw:kV x c=(kF x (c/64)/2^(c%64)%2==1):=by
  exact ZmH4
 rw[hw]
 have hcell:[Value.int .u64 x.a,Value.int .u64 x.b,Value.int .u64 x.c,Value.int .u64 x.d][c/64]? =some (.int .u64 (kF x (c/64))):=by
  exact ZmH6
 have hm:c%64<64:=jU _ (by decide);clear hw;go_enter func48,ntmps48;go_wp2;go_ret;exact⟨rfl,aF (aB w _)⟩
def q4q(x:Ed):Prop:=∀q,0<=kF x q
theorem q5c{w:World}(x:Ed)(hx:q4q x)(c:Nat)(hc:c<256):
  Calls prog 76 #[.agg #[.int .u64 x.a,.int .u64 x.b,.int .u64 x.c,.int .u64 x.d],.int .u8 c] w fun e w'=>e=.returned (.bool (kV x c))/\∃x,w'=ext w x:=by
 have hw:kV x c=(kF x (c/64)/2^(c%64)%2==1):=by
  exact ZmH4
 rw[hw]
 have hcell:[Value.int .u64 x.a,Value.int .u64 x.b,Value.int .u64 x.c,Value.int .u64 x.d][c/64]? =some (.int .u64 (kF x (c/64))):=by
  exact ZmH6
 have hm:c%64<64:=jU _ (by decide);have h0:=hx (c/64);generalize kF x (c/64)=v at*;have qcT:0<=v/2^(c%64):=Int.ediv_nonneg h0 (Int.pow_nonneg (by decide));clear hw hx;go_enter func76,ntmps76;go_wp2;go_ret;exact⟨rfl,aF (aB w _)⟩
def InL(n:Nat)(st:List Int)(i:Nat):Prop:=i<n/\(i:Int)∈st
noncomputable def q5u(e:List (List Ed))(F:Int)(r st:List Int):List Nat:=if q1r e F r then mK e.length (Rch e (InL e.length st))else []
noncomputable def q3n(e:List (List Ed))(st:List Int)(c:Nat):List Nat:=mK e.length (Rch e (By e (InL e.length st) c))
def txt(s:ByteArray):List Nat:=s.data.toList.map UInt8.toNat
theorem kG(s:ByteArray):(txt s).length=s.size:=by simp[txt]
theorem q3o(s:ByteArray)(i:Nat):(txt s).getD i 0<256:=by
 unfold txt;simp only[qt,qT];cases s.data.toList[i]? with
 |none=>simp
 |some x=>exact UInt8.toNat_lt x
theorem P1{s:ByteArray}{i:Nat}(h:i<s.size)(W:World):(Instr.index 9 (.string s) (.int .i64 i)).run prog W=.ok (.int .u8 ((txt s).getD i 0:Nat)) W:=by
 rw[run_index_string W 9 s .i64 i underlying9];simp[h,txt,List.getD]
 rfl
end Go.Cm
namespace Go.Cm
theorem O0.congr{s:St}{y:Pc×St}{L L':Lng}(h:O0 s y L)(hl:∀w,L w↔L' w):O0 s y L':=⟨h.grow,h.old,h.hf,h.hl,h.nol,h.inn,h.edq,fun w=>(h.lang w).trans (hl w),h.rul⟩
def q2e(f:Fo):Lng:=(aX f).getD 0 lV
def emT:Nd:=⟨2,0,0,0,0,0,0,0⟩
def noT:Nd:=⟨1,0,0,0,0,0,0,0⟩
abbrev Tm:=Nd×Fo
def eE:Tm:=(emT,.nil)
def eS:Tm:=(noT,.nil)
def one(t:Tm)(r:Fo):Fo:=.cons t.1 t.2 r
def eQ:Fo->Fo->Fo
 |.nil,g=>g
 |.cons x k r,g=>.cons x k (eQ r g)
def fA(x:Nd):Bool:=decide (x.kd=1/\x.a=0/\x.b=0/\x.c=0/\x.d=0)
def eH(kd:Int):Fo->Fo
 |.nil=>.nil
 |.cons x k r=>if x.kd=kd then eQ k (eH kd r)else .cons x k (eH kd r)
def oP:Fo->Option Fo
 |.nil=>some .nil
 |.cons x k r=>if fA x then none else(oP r).map (fun q=>if x.kd=2 then q else .cons x k q)
def J2(kd:Int)(f:Fo):Tm:=(⟨kd,cnt f,0,0,0,0,0,0⟩,f)
def mZ(kd:Int)(z:Tm):Fo->Tm
 |.nil=>z
 |.cons x k .nil=>(x,k)
 |f=>J2 kd f
def iH(l:Fo):Tm:=match oP (eH 3 l)with
 |none=>eS
 |some f=>mZ 3 eE f
def d7(t:Tm):Lng:=cQ t.1 (aX t.2)
def eI:List Lng->Lng
 |[]=>eps
 |A::r=>cat A (eI r)
theorem tI(A B:List Lng)(w:List Nat):eI (A++B) w↔cat (eI A) (eI B) w:=by
 induction A generalizing w with
 |nil=>exact(yS _ w).symm
 |cons a A ih=>
  rw[show cat (eI (a::A)) (eI B) w↔cat a (cat (eI A) (eI B)) w from wK _ _ _ w];exact dY (fun _=>Iff.rfl) ih w
theorem wL(Ls:List Lng):∀i,i<=Ls.length->∀w,I9 Ls i w↔eI (Ls.take i) w
 |0,_,w=>Iff.rfl
 |i+1,h,w=>by
  have hi:i<Ls.length:=h
  have e:Ls.take (i+1)=Ls.take i++[Ls.getD i lV]:=by
   rw[List.take_add_one,qx hi];simp[List.getD,hi]
  rw[e,tI];show cat (I9 Ls i) (Ls.getD i lV) w↔_;exact dY (wL Ls i (by omega)) (fun w=>(rS _ w).symm) w
theorem rX:∀f g,aX (eQ f g)=aX f++aX g
 |.nil,_=>rfl
 |.cons x k r,g=>by rw[eQ,aX,aX,rX r g];rfl
theorem r5(x:Nd)(Ls:List Lng)(h:x.kd=3)(w:List Nat):cQ x Ls w↔eI Ls w:=by
 unfold cQ;rw[qu (by omega),qu (by omega),qu (by omega),qu (by omega),qu (by omega),qu (by omega),qv h];rw[wL Ls _ (qb _),j0]
theorem iA(x:Nd)(Ls:List Lng)(h:x.kd=2)(w:List Nat):cQ x Ls w↔w=[]:=by
 unfold cQ;rw[qu (by omega),qv h];exact Iff.rfl
theorem eT(x:Nd)(Ls:List Lng)(h:fA x=true)(w:List Nat):¬cQ x Ls w:=by
 obtain⟨h1,ha,hb,hc,hd⟩:=jb h;unfold cQ;rw[qv h1];rintro⟨c,-,hc2⟩;unfold kV bW at hc2;simp[ha,hb,hc,hd]at hc2
theorem rY:∀f w,eI (aX (eH 3 f)) w↔eI (aX f) w
 |.nil,w=>Iff.rfl
 |.cons x k r,w=>by
  rw[eH];split
  ·rename_i h
   rw[rX,tI,aX];exact dY (fun w=>(r5 x _ h w).symm) (rY r) w
  rw[aX,aX];exact dY (fun _=>Iff.rfl) (rY r) w
theorem wM:∀f w,(match oP f with|none=>False|some g=>eI (aX g) w)↔eI (aX f) w
 |.nil,w=>Iff.rfl
 |.cons x k r,w=>by
  rw[oP,aX];by_cases hd:fA x=true
  ·rw[qv hd]
   exact⟨fun h=>h.elim,fun⟨u,v,_,hu,_⟩=>eT x _ hd u hu⟩
  rw[qu hd];have ih:=wM r;cases hr:oP r with
  |none=>
   rw[hr]at ih;exact⟨fun h=>h.elim,fun⟨u,v,_,_,hv⟩=>(ih v).2 hv⟩
  |some g=>
   have ih':∀w,eI (aX g) w↔eI (aX r) w:=fun w=>by
    have h:=ih w;rw[hr]at h;exact h
   simp only[jN];by_cases h2:x.kd=2
   ·rw[qv h2]
    rw[ih' w];exact((yS _ w).symm).trans (dY (fun w=>(iA x _ h2 w).symm) (fun _=>Iff.rfl) w)
   rw[qu h2,aX];exact dY (fun _=>Iff.rfl) ih' w
theorem P2(f:Fo)(w:List Nat):d7 (mZ 3 eE f) w↔eI (aX f) w:=by
 match f with
 |.nil=>exact iA emT _ rfl w
 |.cons x k .nil=>
  show cQ x (aX k) w↔cat (cQ x (aX k)) eps w;exact(rS _ w).symm
 |.cons x k (.cons y j r)=>exact r5 _ _ rfl w
theorem wN(f:Fo)(w:List Nat):d7 (iH f) w↔eI (aX f) w:=by
 rw[<-rY f w,<-wM (eH 3 f) w];unfold iH;cases oP (eH 3 f)with
 |none=>exact⟨fun h=>eT noT _ rfl w h,fun h=>h.elim⟩
 |some g=>exact P2 g w
def b8(z:Int):Nat:=(z%256).toNat
def fM(z:Int):List Nat:=(List.range 8).map fun i=>z.toNat/256^i%256
def kH(x:Nd):List Nat:=(48+x.kd).toNat::((if x.kd=1 then fM x.a++fM x.b++fM x.c++fM x.d else [])++[b8 x.lo,b8 x.hi,40])
def txF:Fo->List Nat
 |.nil=>[]
 |.cons x k r=>kH x++(txF k++41::txF r)
def OkT(x:Nd):Prop:=(1<=x.kd/\x.kd<=8)/\(x.kd≠1->x.a=0/\x.b=0/\x.c=0/\x.d=0)/\NdQ x/\(-1<=x.lo/\x.lo<=30)/\(-1<=x.hi/\x.hi<=30)
theorem iK(z:Int):(fM z).length=8:=by simp[fM]
theorem B1{a b:Int}(ha: -1<=a/\a<=30)(hb: -1<=b/\b<=30)(h:b8 a=b8 b):a=b:=by
 unfold b8 at h;omega
theorem nC{a b:Int}(ha:WQ a)(hb:WQ b)(h:fM a=fM b):a=b:=by
 obtain⟨a,rfl⟩:=jF ha.1;obtain⟨b,rfl⟩:=jF hb.1;have ha2:a<18446744073709551616:=by have:=ha.2;omega
 have hb2:b<18446744073709551616:=by have:=hb.2;omega
 simp only[fM,qC,List.range,List.range.loop,qI,js,List.cons.injEq,and_true]at h;obtain⟨h0,h1,h2,h3,h4,h5,h6,h7⟩:=h;simp only[Nat.pow_zero,Nat.div_one,Nat.reducePow]at h0 h1 h2 h3 h4 h5 h6 h7;omega
theorem P3{x y:Nd}(hx:OkT x)(hy:OkT y){p q:List Nat}(h:kH x++p=kH y++q):x.kd=y.kd/\x.a=y.a/\x.b=y.b/\x.c=y.c/\x.d=y.d/\x.lo=y.lo/\x.hi=y.hi/\p=q:=by
 obtain⟨kx,sx,wx,lx,ix⟩:=hx;obtain⟨ky,sy,wy,ly,iy⟩:=hy;unfold kH at h;rw[jl,jl]at h;injection h with h1 h2;have hk:x.kd=y.kd:=by omega
 by_cases k1:x.kd=1
 ·rw[qv k1,qv (hk▸k1)]at h2
  simp only[qk]at h2;obtain⟨e1,h2⟩:=List.append_inj h2 (by simp[iK]);obtain⟨e2,h2⟩:=List.append_inj h2 (by simp[iK]);obtain⟨e3,h2⟩:=List.append_inj h2 (by simp[iK]);obtain⟨e4,h2⟩:=List.append_inj h2 (by simp[iK]);simp only[jl,List.nil_append,List.cons.injEq,true_and]at h2;exact⟨hk,nC wx.1 wy.1 e1,nC wx.2.1 wy.2.1 e2,nC wx.2.2.1 wy.2.2.1 e3,nC wx.2.2.2 wy.2.2.2 e4,B1 lx ly h2.1,B1 ix iy h2.2.1,h2.2.2⟩
 rw[qu k1,qu (hk▸k1)]at h2;simp only[List.nil_append,jl,List.cons.injEq,true_and]at h2;obtain⟨a1,a2,a3,a4⟩:=sx k1;obtain⟨c1,c2,c3,c4⟩:=sy (hk▸k1);exact⟨hk,by rw[a1,c1],by rw[a2,c2],by rw[a3,c3],by rw[a4,c4],B1 lx ly h2.1,B1 ix iy h2.2.1,h2.2.2⟩
theorem rZ(x:Nd)(hx:OkT x)(p q:List Nat):kH x++p≠41::q:=by
 intro h;unfold kH at h;rw[jl]at h;injection h with h1 h2;have:=hx.1;omega
theorem uU:∀f g,gT OkT f->gT OkT g->wf f->wf g->∀p q,txF f++41::p=txF g++41::q->f=g/\p=q
 |.nil,.nil,_,_,_,_,p,q,h=>by
  injection h with _ h;exact⟨rfl,h⟩
 |.nil,.cons y j s,_,hg,_,_,p,q,h=>by
  rw[txF,txF,qk]at h;exact absurd h.symm (rZ y hg.1 _ _)
 |.cons x k r,.nil,hf,_,_,_,p,q,h=>by
  rw[txF,txF,qk]at h;exact absurd h (rZ x hf.1 _ _)
 |.cons x k r,.cons y j s,hf,hg,wf1,wg1,p,q,h=>by
  simp only[txF,qk,jl]at h;obtain⟨e1,e2,e3,e4,e5,e6,e7,h2⟩:=P3 hf.1 hg.1 h;obtain⟨rfl,h3⟩:=uU k j hf.2.1 hg.2.1 wf1.2.1 wg1.2.1 _ _ h2;obtain⟨rfl,h4⟩:=uU r s hf.2.2 hg.2.2 wf1.2.2 wg1.2.2 _ _ h3;refine⟨?_,h4⟩;have hn:x.n=y.n:=wf1.1.trans wg1.1.symm
  congr 1
  cases x;cases y;simp only at e1 e2 e3 e4 e5 e6 e7 hn;subst e1 e2 e3 e4 e5 e6 e7 hn
  rfl
def r6(met:List (List Nat)):Fo->Fo
 |.nil=>.nil
 |.cons x k r=>if fA x then r6 met r else if txF (.cons x k .nil)∈met then r6 met r else .cons x k (r6 (txF (.cons x k .nil)::met) r)
def J3(l:Fo):Tm:=mZ 4 eS (r6 [] (eH 4 l))
def yD(Ls:List Lng):Lng:=fun w=>∃A∈Ls,A w
theorem P4(Ls:List Lng)(w:List Nat):uP Ls Ls.length w↔yD Ls w:=by
 constructor
 ·rintro⟨j,hj,h⟩
  have e:Ls.getD j lV=Ls[j]:=by simp[List.getD,hj]
  rw[e]at h;exact⟨_,jk hj,h⟩
 rintro⟨A,hA,h⟩;obtain⟨j,hj,rfl⟩:=List.mem_iff_getElem.1 hA;exact⟨j,hj,by rw[show Ls.getD j lV=Ls[j] by simp[List.getD,hj]];exact h⟩
theorem r7(x:Nd)(Ls:List Lng)(h:x.kd=4)(w:List Nat):cQ x Ls w↔yD Ls w:=by
 unfold cQ;rw[qu (by omega),qu (by omega),qu (by omega),qu (by omega),qu (by omega),qu (by omega),qu (by omega)];exact P4 Ls w
theorem q0x(A B:List Lng)(w:List Nat):yD (A++B) w↔yD A w\/yD B w:=by
 constructor
 ·rintro⟨L,h,hw⟩
  exact(List.mem_append.1 h).imp (fun h=>⟨L,h,hw⟩) (fun h=>⟨L,h,hw⟩)
 rintro(⟨L,h,hw⟩|⟨L,h,hw⟩)
 ·exact⟨L,j4 _ h,hw⟩
 exact⟨L,List.mem_append_right _ h,hw⟩
theorem eU(A:Lng)(B:List Lng)(w:List Nat):yD (A::B) w↔A w\/yD B w:=by
 constructor
 ·rintro⟨L,h,hw⟩
  rcases List.mem_cons.1 h with rfl|h
  ·exact .inl hw
  exact .inr ⟨L,h,hw⟩
 rintro(h|⟨L,h,hw⟩)
 ·exact⟨A,jg,h⟩
 exact⟨L,qX _ h,hw⟩
theorem s2:∀f w,yD (aX (eH 4 f)) w↔yD (aX f) w
 |.nil,w=>Iff.rfl
 |.cons x k r,w=>by
  rw[eH];split
  ·rename_i h
   rw[rX,q0x,aX,eU,s2 r w,r7 x _ h]
  rw[aX,aX,eU,eU,s2 r w]
theorem q3p{x y:Nd}{k j:Fo}(hx:OkT x)(hy:OkT y)(hk:gT OkT k)(hj:gT OkT j)(wx:x.n=cnt k)(wy:y.n=cnt j)(wk:wf k)(wj:wf j)(h:txF (.cons x k .nil)=txF (.cons y j .nil)):x=y/\k=j:=by
 have:=(uU (.cons x k .nil) (.cons y j .nil) ⟨hx,hk,trivial⟩ ⟨hy,hj,trivial⟩ ⟨wx,wk,trivial⟩ ⟨wy,wj,trivial⟩ [] [] (by rw[h])).1;injection this with a b _;exact⟨a,b⟩
def q4A(met:List (List Nat))(A:Lng):Prop:=∀m∈met,∃(y:Nd) (j:Fo),m=txF (.cons y j .nil)/\OkT y/\gT OkT j/\y.n=cnt j/\wf j/\∀w,cQ y (aX j) w->A w
theorem nD:∀f (met:List (List Nat)) (A:Lng),gT OkT f->wf f->q4A met A->∀w,A w\/yD (aX (r6 met f)) w↔A w\/yD (aX f) w
 |.nil,_,_,_,_,_,_=>Iff.rfl
 |.cons x k r,met,A,hf,hw,hm,w=>by
  rw[r6,aX,eU];by_cases hd:fA x=true
  ·rw[qv hd,nD r met A hf.2.2 hw.2.2 hm w]
   have:=eT x (aX k) hd w
   constructor
   ·rintro(h|h)
    ·exact .inl h
    exact .inr (.inr h)
   rintro(h|h|h)
   ·exact .inl h
   ·exact absurd h this
   exact .inr h
  rw[qu hd];by_cases hin:txF (.cons x k .nil)∈met
  ·rw[qv hin,nD r met A hf.2.2 hw.2.2 hm w]
   obtain⟨y,j,e,hy,hj,wy,wj,hl⟩:=hm _ hin;obtain⟨rfl,rfl⟩:=q3p hf.1 hy hf.2.1 hj hw.1 wy hw.2.1 wj e
   constructor
   ·rintro(h|h)
    ·exact .inl h
    exact .inr (.inr h)
   rintro(h|h|h)
   ·exact .inl h
   ·exact .inl (hl w h)
   exact .inr h
  rw[qu hin,aX,eU]
  have ih:=nD r (txF (.cons x k .nil)::met) (fun w=>A w\/cQ x (aX k) w) hf.2.2 hw.2.2 (fun m h=>by
   rcases List.mem_cons.1 h with rfl|h
   ·exact⟨x,k,rfl,hf.1,hf.2.1,hw.1,hw.2.1,fun w h=>.inr h⟩
   obtain⟨y,j,e,a,b,c,d,hl⟩:=hm m h;exact⟨y,j,e,a,b,c,d,fun w h=>.inl (hl w h)⟩) w
  rw[<-or_assoc,<-or_assoc];exact ih
theorem P5(f:Fo)(w:List Nat):d7 (mZ 4 eS f) w↔yD (aX f) w:=by
 match f with
 |.nil=>exact⟨fun h=>absurd h (eT noT _ rfl w),fun⟨_,h,_⟩=>by cases h⟩
 |.cons x k .nil=>
  rw[aX,eU];exact⟨.inl,fun h=>h.elim id (fun⟨_,h,_⟩=>by cases h)⟩
 |.cons x k (.cons y j r)=>exact r7 _ _ rfl w
theorem nE(p:Nd->Prop)(kd:Int):∀f,gT p f->gT p (eH kd f)
 |.nil,_=>trivial
 |.cons x k r,h=>by
  have app:∀f g,gT p f->gT p g->gT p (eQ f g):=by
   intro f
   induction f with
   |nil=>exact fun g _ h=>h
   |cons x k r _ ih=>exact fun g h1 h2=>⟨h1.1,h1.2.1,ih g h1.2.2 h2⟩
  rw[eH];split
  ·exact app _ _ h.2.1 (nE p kd r h.2.2)
  exact⟨h.1,h.2.1,nE p kd r h.2.2⟩
theorem r8(kd:Int):∀f,wf f->wf (eH kd f)
 |.nil,_=>trivial
 |.cons x k r,h=>by
  have app:∀f g,wf f->wf g->wf (eQ f g):=by
   intro f
   induction f with
   |nil=>exact fun g _ h=>h
   |cons x k r _ ih=>exact fun g h1 h2=>⟨h1.1,h1.2.1,ih g h1.2.2 h2⟩
  rw[eH];split
  ·exact app _ _ h.2.1 (r8 kd r h.2.2)
  exact⟨h.1,h.2.1,r8 kd r h.2.2⟩
theorem wO(f:Fo)(h1:gT OkT f)(h2:wf f)(w:List Nat):d7 (J3 f) w↔yD (aX f) w:=by
 rw[<-s2 f w];unfold J3;rw[P5];have h:=nD (eH 4 f) [] (fun _=>False) (nE OkT 4 f h1) (r8 4 f h2) (fun m h=>by cases h) w;simpa using h
def OkS(x:Nd):Prop:=OkT x/\(5<=x.kd->x.n=1)/\(x.kd=8->0<=x.lo/\(x.hi= -1\/x.lo<=x.hi))
def tJ(x:Nd)(p:Bool×Bool):Bool:=
 if x.kd=2\/x.kd=5\/x.kd=7 then true else if x.kd=3\/x.kd=6 then p.1 else if x.kd=4 then p.2 else if x.kd=8 then p.1||decide (x.lo=0)else false
def mL:Fo->Bool×Bool
 |.nil=>(true,false)
 |.cons x k r=>(tJ x (mL k)&&(mL r).1,tJ x (mL k)||(mL r).2)
theorem yU(A B:Lng):cat A B []↔A []/\B []:=by
 constructor
 ·rintro⟨u,v,e,a,b⟩
  obtain⟨rfl,rfl⟩:=List.append_eq_nil_iff.1 e.symm;exact⟨a,b⟩
 rintro⟨a,b⟩;exact⟨[],[],rfl,a,b⟩
theorem tK:∀Ls:List Lng,eI Ls []↔∀L∈Ls,L []
 |[]=>⟨fun _ _ h=>(by cases h),fun _=>rfl⟩
 |A::r=>by
  show cat A (eI r) []↔_;rw[yU,tK r];simp
theorem uV(L:Lng):∀k,mW L (k+1) []↔L []
 |0=>by
  show cat eps L []↔_;rw[yU];exact⟨fun h=>h.2,fun h=>⟨rfl,h⟩⟩
 |k+1=>by
  show cat (mW L (k+1)) L []↔_;rw[yU,uV L k];exact⟨fun h=>h.2,fun h=>⟨h,h⟩⟩
theorem r9(lo hi:Int)(L:Lng)(h0:0<=lo)(h1:hi= -1\/lo<=hi):bM lo hi L []↔L []\/lo=0:=by
 constructor
 ·rintro⟨k,a,b,c⟩
  match k with
  |0=>exact .inr (by omega)
  |k+1=>exact .inl ((uV L k).1 c)
 rintro(h|h)
 ·by_cases hl:lo=0
  ·exact⟨0,by omega,by omega,rfl⟩
  refine⟨lo.toNat,by omega,by omega,?_⟩;obtain⟨k,hk⟩:∃k,lo.toNat=k+1:=⟨lo.toNat-1,by omega⟩;rw[hk];exact(uV L k).2 h
 exact⟨0,by omega,by omega,rfl⟩
theorem wP(x:Nd)(p:Bool×Bool)(Ls:List Lng)(hx:OkS x)(hn:x.n=Ls.length)(h1:p.1=true↔∀L∈Ls,L [])(h2:p.2=true↔∃L∈Ls,L []):tJ x p=true↔cQ x Ls []:=by
 obtain⟨⟨hk,-⟩,h5,h8⟩:=hx
 have q6o:5<=x.kd->∃A,Ls=[A]:=fun h=>by
  have e:Ls.length=1:=by have:=h5 h;omega
  exact List.length_eq_one_iff.1 e
 unfold tJ;rcases(show x.kd=1\/x.kd=2\/x.kd=3\/x.kd=4\/x.kd=5\/x.kd=6\/x.kd=7\/x.kd=8 by omega)with h|h|h|h|h|h|h|h
 ·rw[qu (by omega),qu (by omega),qu (by omega),qu (by omega)]
  unfold cQ;rw[qv h];exact⟨fun h=>(by cases h),fun⟨c,e,_⟩=>(by cases e)⟩
 ·rw[qv (.inl h),iA x Ls h]
  exact⟨fun _=>rfl,fun _=>rfl⟩
 ·rw[qu (by omega),qv (.inl h),r5 x Ls h,tK,h1]
 ·rw[qu (by omega),qu (by omega),qv h,r7 x Ls h,h2]
  exact Iff.rfl
 ·obtain⟨A,rfl⟩:=q6o (by omega)
  rw[qv (.inr (.inl h))];unfold cQ;rw[qu (by omega),qu (by omega),qu (by omega),qv h,r9 _ _ _ (by omega) (by omega)];exact⟨fun _=>.inr rfl,fun _=>rfl⟩
 ·obtain⟨A,rfl⟩:=q6o (by omega)
  rw[qu (by omega),qv (.inr h),h1];unfold cQ;rw[qu (by omega),qu (by omega),qu (by omega),qu (by omega),qv h,r9 _ _ _ (by omega) (by omega)];simp
 ·obtain⟨A,rfl⟩:=q6o (by omega)
  rw[qv (.inr (.inr h))];unfold cQ;rw[qu (by omega),qu (by omega),qu (by omega),qu (by omega),qu (by omega),qv h,r9 _ _ _ (by omega) (by omega)];exact⟨fun _=>.inr rfl,fun _=>rfl⟩
 obtain⟨A,rfl⟩:=q6o (by omega);obtain⟨l0,l1⟩:=h8 h;rw[qu (by omega),qu (by omega),qu (by omega),qv h];unfold cQ;rw[qu (by omega),qu (by omega),qv h,r9 _ _ _ l0 l1,Bool.or_eq_true,h1];simp
theorem s9:∀f,gT OkS f->wf f->((mL f).1=true↔∀L∈aX f,L [])/\((mL f).2=true↔∃L∈aX f,L [])
 |.nil,_,_=>⟨⟨fun _ _ h=>(by cases h),fun _=>rfl⟩,⟨fun h=>(by cases h),fun⟨_,h,_⟩=>by cases h⟩⟩
 |.cons x k r,h,hw=>by
  obtain⟨a1,a2⟩:=s9 k h.2.1 hw.2.1;obtain⟨b1,b2⟩:=s9 r h.2.2 hw.2.2;have hn:=wP x (mL k) (aX k) h.1 (by rw[lG];exact hw.1) a1 a2;rw[aX]
  constructor
  ·show(tJ x (mL k)&&(mL r).1)=true↔_
   rw[qJ,hn,b1];simp
  show(tJ x (mL k)||(mL r).2)=true↔_;rw[Bool.or_eq_true,hn,b2];simp
def iL(t:Tm):Tm:=if t.1.kd=5 then t else if t.1.kd=2\/fA t.1=true then eE else J2 5 (one t .nil)
def uW(t:Tm)(lo hi:Int):Tm:=
 if hi=0 then eE else if hi= -1/\lo=0 then iL t else if lo=1/\hi=1 then t else if fA t.1=true/\0<lo then eS
 else if fA t.1=true\/t.1.kd=2 then eE else(⟨8,1,0,0,0,0,lo,hi⟩,one t .nil)
def eC(n:Int):Int:=if n= -1 then n else max 0 (n-1)
def tL:Fo->Fo->Tm
 |.cons x k r,.cons y j q=>if tJ x (mL k)then J3 (one (iH (.cons y j (one (iH r) .nil))) (one (tL r q) .nil))else iH (.cons y j (one (iH r) .nil))
 |_,_=>eS
def hdT:Fo->Tm
 |.nil=>eS
 |.cons x k _=>(x,k)
def iB(c:Nat)(x:Nd)(k dk:Fo):Tm:=
 if x.kd=1 then(if kV (bW x 0) c then eE else eS)else if x.kd=3 then tL k dk else if x.kd=4 then J3 dk
 else if x.kd=5\/x.kd=6 then iH (one (hdT dk) (one (iL (hdT k)) .nil))else if x.kd=7 then hdT dk
 else if x.kd=8/\x.hi≠0 then iH (one (hdT dk) (one (uW (hdT k) (eC x.lo) (eC x.hi)) .nil))else eS
def cV(c:Nat):Fo->Fo
 |.nil=>.nil
 |.cons x k r=>one (iB c x k (cV c k)) (cV c r)
theorem lW(c:Nat):∀f,cnt (cV c f)=cnt f
 |.nil=>rfl
 |.cons x k r=>by rw[cV,one,cnt,cnt,lW c r]
theorem P6(A B:Lng)(c:Nat)(w:List Nat):cat A B (c::w)↔cat (fun u=>A (c::u)) B w\/(A []/\B (c::w)):=by
 constructor
 ·rintro⟨u,v,e,a,b⟩
  cases u with
  |nil=>exact .inr ⟨a,by rw[e];exact b⟩
  |cons d u=>
   injection e with e1 e2;subst e1;exact .inl ⟨u,v,e2,a,b⟩
 rintro(⟨u,v,rfl,a,b⟩|⟨a,b⟩)
 ·exact⟨c::u,v,rfl,a,b⟩
 exact⟨[],c::w,rfl,a,b⟩
theorem nF(A:Lng)(w:List Nat):mW A 1 w↔A w:=yS A w
theorem J4(A:Lng)(k:Nat)(w:List Nat):mW A (k+1) w↔cat A (mW A k) w:=by
 rw[Nat.add_comm k 1,mX A 1 k w];exact dY (nF A) (fun _=>Iff.rfl) w
theorem q0y{A:Lng}(h:A []){k:Nat}{w:List Nat}(hp:mW A k w):mW A (k+1) w:=⟨w,[],by simp,hp,h⟩
theorem B2(A:Lng)(c:Nat):∀(k:Nat) (w:List Nat),mW A (k+1) (c::w)↔cat (fun u=>A (c::u)) (mW A k) w:=by
 intro k
 induction k with
 |zero=>
  intro w;rw[nF];exact(rS (fun u=>A (c::u)) w).symm
 |succ k ih=>
  intro w;rw[J4,P6]
  constructor
  ·rintro(h|⟨h0,h⟩)
   ·exact h
   obtain⟨u,v,e,a,b⟩:=(ih w).1 h;exact⟨u,v,e,a,q0y h0 b⟩
  exact .inl
theorem uX(lo hi:Int)(A:Lng)(c:Nat)(w:List Nat)(hh:hi≠0)(h0:0<=lo)(h1:hi= -1\/lo<=hi):bM lo hi A (c::w)↔cat (fun u=>A (c::u)) (bM (eC lo) (eC hi) A) w:=by
 unfold eC
 constructor
 ·rintro⟨k,a,b,hp⟩
  match k with
  |0=>cases hp
  |k+1=>
   obtain⟨u,v,e,p,q⟩:=(B2 A c k w).1 hp;refine⟨u,v,e,p,k,?_,?_,q⟩
   ·split<;>omega
   split<;>omega
 rintro⟨u,v,e,p,k,a,b,q⟩;refine⟨k+1,?_,?_,(B2 A c k w).2 ⟨u,v,e,p,q⟩⟩
 ·split at a<;>omega
 split at b<;>omega
theorem B3(A:Lng):∀(k:Nat) (w:List Nat),mW (bM 0 (-1) A) k w->∃n,mW A n w
 |0,w,h=>⟨0,h⟩
 |k+1,w,h=>by
  obtain⟨u,v,rfl,a,n,-,-,b⟩:=h;obtain⟨m,hm⟩:=B3 A k u a;exact⟨m+n,(mX A m n _).2 ⟨u,v,rfl,hm,b⟩⟩
theorem P7(A:Lng)(w:List Nat):bM 0 (-1) (bM 0 (-1) A) w↔bM 0 (-1) A w:=by
 constructor
 ·rintro⟨k,-,-,h⟩
  obtain⟨n,hn⟩:=B3 A k w h;exact⟨n,by omega,by omega,hn⟩
 intro h;exact⟨1,by omega,by omega,(nF _ w).2 h⟩
theorem uY{A:Lng}(h:∀w,A w->w=[]):∀(k:Nat) (w:List Nat),mW A k w->w=[]
 |0,_,hw=>hw
 |k+1,_,hw=>by
  obtain⟨u,v,rfl,a,b⟩:=hw;rw[uY h k u a,h v b]
  rfl
theorem P8{A:Lng}(h:A []):∀k,mW A k []
 |0=>rfl
 |k+1=>⟨[],[],rfl,P8 h k,h⟩
theorem tM(t:Tm)(w:List Nat):d7 (iL t) w↔bM 0 (-1) (d7 t) w:=by
 unfold iL
 have only:(t.1.kd=2\/fA t.1=true)->∀w,d7 t w->w=[]:=by
  rintro(h|h) w hw
  ·exact(iA t.1 _ h w).1 hw
  exact absurd hw (eT t.1 _ h w)
 split
 ·rename_i h
  have e:d7 t=bM 0 (-1) ((aX t.2).getD 0 lV):=by
   unfold d7 cQ;rw[qu (by omega),qu (by omega),qu (by omega),qv h]
  rw[e];exact(P7 _ w).symm
 split
 ·rename_i h
  have e:d7 eE w↔w=[]:=iA emT _ rfl w;rw[e]
  constructor
  ·rintro rfl
   exact⟨0,by omega,by omega,rfl⟩
  rintro⟨k,-,-,hp⟩;exact uY (only h) k w hp
 exact Iff.rfl
theorem P9(t:Tm)(lo hi:Int)(h0:0<=lo)(h1:hi= -1\/lo<=hi)(w:List Nat):d7 (uW t lo hi) w↔bM lo hi (d7 t) w:=by
 have em:d7 eE w↔w=[]:=iA emT _ rfl w;unfold uW;split
 ·rename_i h
  rw[em]
  constructor
  ·rintro rfl
   exact⟨0,by omega,by omega,rfl⟩
  rintro⟨k,a,b,hp⟩;obtain rfl:k=0:=by omega
  exact hp
 split
 ·rename_i h
  rw[tM,h.1,h.2]
 split
 ·rename_i h
  rw[h.1,h.2]
  constructor
  ·intro hw
   exact⟨1,by omega,by omega,(nF _ w).2 hw⟩
  rintro⟨k,a,b,hp⟩;obtain rfl:k=1:=by omega
  exact(nF _ w).1 hp
 split
 ·rename_i h
  refine⟨fun hw=>absurd hw (eT noT _ rfl w),?_⟩;rintro⟨k,a,b,hp⟩
  match k with
  |0=>omega
  |k+1=>
   obtain⟨u,v,-,-,hv⟩:=hp;exact absurd hv (eT t.1 _ h.1 v)
 split
 ·rename_i hd h
  rw[em]
  have only:∀w,d7 t w->w=[]:=by
   rcases h with h|h
   ·exact fun w hw=>absurd hw (eT t.1 _ h w)
   exact fun w hw=>(iA t.1 _ h w).1 hw
  constructor
  ·rintro rfl
   rcases h with h|h
   ·have hl:lo=0:=by
     rcases(show 0<lo\/lo<=0 by omega)with h3|h3
     ·exact absurd ⟨h,h3⟩ hd
     omega
    exact⟨0,by omega,by omega,rfl⟩
   exact⟨lo.toNat,by omega,by omega,P8 ((iA t.1 _ h []).2 rfl) _⟩
  rintro⟨k,-,-,hp⟩;exact uY only k w hp
 exact Iff.rfl
def cU(f:Fo):Prop:=gT OkS f/\wf f
def gZ(t:Tm):Prop:=OkS t.1/\t.1.n=cnt t.2/\cU t.2
theorem eF:cU .nil:=⟨trivial,trivial⟩
theorem cH{t:Tm}{r:Fo}(h:gZ t)(k:cU r):cU (one t r):=⟨⟨h.1,h.2.2.1,k.1⟩,⟨h.2.1,h.2.2.2,k.2⟩⟩
theorem bF{x:Nd}{k r:Fo}(h:cU (.cons x k r)):gZ (x,k)/\cU r:=⟨⟨h.1.1,h.2.1,h.1.2.1,h.2.2.1⟩,h.1.2.2,h.2.2.2⟩
theorem wQ(kd:Int){f:Fo}(h:cU f):cU (eH kd f):=⟨nE OkS kd f h.1,r8 kd f h.2⟩
theorem nq0:∀(kd n lo hi:Int),NdQ ⟨kd,n,0,0,0,0,lo,hi⟩:=fun _ _ _ _=>⟨uQ,uQ,uQ,uQ⟩
theorem iM:gZ eE:=⟨⟨⟨by decide,fun _=>⟨rfl,rfl,rfl,rfl⟩,nq0 _ _ _ _,by decide,by decide⟩,by decide,by decide⟩,rfl,eF⟩
theorem gA:gZ eS:=⟨⟨⟨by decide,fun _=>⟨rfl,rfl,rfl,rfl⟩,nq0 _ _ _ _,by decide,by decide⟩,by decide,by decide⟩,rfl,eF⟩
theorem Q0(kd:Int)(f:Fo)(h:cU f)(hk:kd=3\/kd=4):gZ (J2 kd f):=
 ⟨⟨⟨(show 1<=kd/\kd<=8 by omega),fun _=>⟨rfl,rfl,rfl,rfl⟩,nq0 _ _ _ _,(show(-1:Int)<=0/\(0:Int)<=30 by decide),(show(-1:Int)<=0/\(0:Int)<=30 by decide)⟩,fun(e:5<=kd)=>by omega,fun(e:kd=8)=>by omega⟩,rfl,h⟩
theorem wR(kd:Int)(z:Tm)(f:Fo)(h:cU f)(hz:gZ z)(hk:kd=3\/kd=4):gZ (mZ kd z f):=by
 match f with
 |.nil=>exact hz
 |.cons x k .nil=>exact(bF h).1
 |.cons x k (.cons y j r)=>exact Q0 kd _ h hk
theorem wS:∀f g,cU f->oP f=some g->cU g
 |.nil,g,_,e=>by
  injection e with e;exact e▸eF
 |.cons x k r,g,h,e=>by
  rw[oP]at e;split at e
  ·cases e
  obtain⟨q,hq,e⟩:=Option.map_eq_some_iff.1 e;have h2:=wS r q (bF h).2 hq;split at e
  ·exact e▸h2
  exact e▸cH (bF h).1 h2
theorem i6{f:Fo}(h:cU f):gZ (iH f):=by
 unfold iH;split
 ·exact gA
 rename_i g hg;exact wR 3 _ g (wS _ g (wQ 3 h) hg) iM (.inl rfl)
theorem nG:∀f met,cU f->cU (r6 met f)
 |.nil,_,h=>h
 |.cons x k r,met,h=>by
  rw[r6];split
  ·exact nG r met (bF h).2
  split
  ·exact nG r met (bF h).2
  exact cH (bF h).1 (nG r _ (bF h).2)
theorem B7{f:Fo}(h:cU f):gZ (J3 f):=wR 4 _ _ (nG _ _ (wQ 4 h)) gA (.inr rfl)
theorem wT{t:Tm}(h:gZ t):gZ (iL t):=by
 unfold iL;split
 ·exact h
 split
 ·exact iM
 exact⟨⟨⟨(show(1:Int)<=5/\(5:Int)<=8 by decide),fun _=>⟨rfl,rfl,rfl,rfl⟩,nq0 _ _ _ _,(show(-1:Int)<=0/\(0:Int)<=30 by decide),(show(-1:Int)<=0/\(0:Int)<=30 by decide)⟩,fun _=>rfl,fun(e:(5:Int)=8)=>absurd e (by decide)⟩,rfl,cH h eF⟩
theorem q0z{t:Tm}{lo hi:Int}(h:gZ t)(h0:0<=lo/\lo<=30)(h1: -1<=hi/\hi<=30)(h2:hi= -1\/lo<=hi):gZ (uW t lo hi):=by
 unfold uW;split
 ·exact iM
 split
 ·exact wT h
 split
 ·exact h
 split
 ·exact gA
 split
 ·exact iM
 exact⟨⟨⟨(show(1:Int)<=8/\(8:Int)<=8 by decide),fun _=>⟨rfl,rfl,rfl,rfl⟩,nq0 _ _ _ _,(show -1<=lo/\lo<=30 by omega),h1⟩,fun _=>rfl,fun _=>⟨h0.1,h2⟩⟩,rfl,cH h eF⟩
theorem rA:∀k dk,cU k->cU dk->gZ (tL k dk)
 |.nil,_,_,_=>gA
 |.cons _ _ _,.nil,_,_=>gA
 |.cons x k r,.cons y j q,h,hd=>by
  have d:=i6 (cH (t:=(y,j)) (bF hd).1 (cH (i6 (bF h).2) eF));rw[tL];split
  ·exact B7 (cH d (cH (rA r q (bF h).2 (bF hd).2) eF))
  exact d
theorem sA{f:Fo}(h:cU f):gZ (hdT f):=by
 match f with
 |.nil=>exact gA
 |.cons x k r=>exact(bF h).1
theorem nH{c:Nat}{x:Nd}{k dk:Fo}(hx:OkS x)(hk:cU k)(hd:cU dk):gZ (iB c x k dk):=by
 unfold iB;split
 ·split
  ·exact iM
  exact gA
 split
 ·exact rA k dk hk hd
 split
 ·exact B7 hd
 split
 ·exact i6 (cH (sA hd) (cH (wT (sA hk)) eF))
 split
 ·exact sA hd
 split
 ·rename_i h
  obtain⟨l0,l1⟩:=hx.2.2 h.1;obtain⟨-,-,-,a,b⟩:=hx.1;have hh:=h.2;refine i6 (cH (sA hd) (cH (q0z (sA hk) ?_ ?_ ?_) eF))
  all_goals unfold eC
  ·split<;>omega
  ·split<;>omega
  split<;>split<;>omega
 exact gA
theorem dZ(c:Nat):∀f,cU f->cU (cV c f)
 |.nil,h=>h
 |.cons x k r,h=>by
  obtain⟨⟨a,-,b⟩,d⟩:=bF h;exact cH (nH a b (dZ c k b)) (dZ c r d)
def q33(c:Nat):List Lng->List Lng->Prop
 |[],[]=>True
 |a::ra,b::rb=>(∀w,a w↔b (c::w))/\q33 c ra rb
 |_,_=>False
theorem uZ(s t:Tm)(w:List Nat):d7 (iH (one s (one t .nil))) w↔cat (d7 s) (d7 t) w:=by
 rw[wN];show cat (d7 s) (cat (d7 t) eps) w↔_;exact dY (fun _=>Iff.rfl) (rS _) w
theorem Q3{x:Nd}{k r:Fo}(h:cU (.cons x k r)):tJ x (mL k)=true↔cQ x (aX k) []:=by
 obtain⟨⟨a,b,d⟩,-⟩:=bF h;obtain⟨h1,h2⟩:=s9 k d.1 d.2;exact wP x _ _ a (by rw[lG];exact b) h1 h2
theorem B8(c:Nat):∀k dk,cU k->cU dk->q33 c (aX dk) (aX k)->∀w,d7 (tL k dk) w↔eI (aX k) (c::w)
 |.nil,.nil,_,_,_,w=>⟨fun h=>absurd h (eT noT _ rfl w),fun h=>by cases h⟩
 |.nil,.cons _ _ _,_,_,h,_=>h.elim
 |.cons _ _ _,.nil,_,_,h,_=>h.elim
 |.cons x k r,.cons y j q,hk,hd,h,w=>by
  have e1:d7 (iH (.cons y j (one (iH r) .nil))) w↔cat (fun u=>cQ x (aX k) (c::u)) (eI (aX r)) w:=
   (uZ (y,j) (iH r) w).trans (dY (fun w=>h.1 w) (wN r) w)
  have ih:=B8 c r q (bF hk).2 (bF hd).2 h.2 w;have hn:=Q3 hk;rw[tL];show _↔cat (cQ x (aX k)) (eI (aX r)) (c::w);rw[P6];split
  ·rename_i hx
   have g:=cH (i6 (cH (t:=(y,j)) (bF hd).1 (cH (i6 (bF hk).2) eF))) (cH (rA r q (bF hk).2 (bF hd).2) eF);have go:gT OkT _:=(eW _).2 (fun z hz=>((eW _).1 g.1 z hz).1);refine(wO _ go g.2 w).trans ?_;show yD [d7 _,d7 _] w↔_;rw[eU,eU]
   constructor
   ·rintro(a|a|⟨_,a,_⟩)
    ·exact .inl (e1.1 a)
    ·exact .inr ⟨hn.1 hx,ih.1 a⟩
    cases a
   rintro(a|⟨_,a⟩)
   ·exact .inl (e1.2 a)
   exact .inr (.inl (ih.2 a))
  rename_i hx;exact⟨fun a=>.inl (e1.1 a),fun a=>a.elim e1.2 (fun a=>absurd (hn.2 a.1) hx)⟩
end Go.Cm
namespace Go.Cm
open Go.RowKit Go.Proofs
structure yF(w:World)(p:Nat)(s:ByteArray)(at_:Nat):Prop where
 own:Own w p 81 (.slice (some ⟨p,0,none⟩) 4 4) [.string s,.int .i64 at_,.int .i64 0,.int .i64 0]
section
variable {w w' : World} {p : Nat} {s : ByteArray} {at_ : Nat}
theorem yF.c0(h:yF w p s at_):w.cell? ⟨p,0,none⟩=some (.string s):=h.own.cell (by simp)
theorem yF.c1(h:yF w p s at_):w.cell? ⟨p,1,none⟩=some (.int .i64 at_):=h.own.cell (by simp)
theorem yF.c2(h:yF w p s at_):w.cell? ⟨p,2,none⟩=some (.int .i64 0):=h.own.cell (by simp)
theorem yF.free(h:yF w p s at_)(c:Nat):w.frozen? ⟨p,c,none⟩=false:=h.own.free c
theorem yF.lt(h:yF w p s at_):p<w.heap.size:=h.own.blk.2
theorem yF.up(h:yF w p s at_)(hb:Below w.heap.size w w'):yF w' p s at_:=⟨h.own.up hb⟩
theorem yF.set(h:yF w p s at_)(k:Nat):yF (w.setCell ⟨p,1,none⟩ (.int .i64 k)) p s k/\w.grownBy (w.setCell ⟨p,1,none⟩ (.int .i64 k)) (some p):=⟨⟨(h.own.store 1 _).1⟩,(h.own.store 1 _).2⟩
end
def cJ(w:World)(B:Nat)(u:Value)(l:List Nd):Prop:=d4 8 w B 77 u (l.map ndC)
theorem cJ.at{w:World}{B:Nat}{u:Value}{l:List Nd}(h:cJ w B u l):aO w u l:=d4.sl h
theorem cJ.up{w w':World}{B:Nat}{u:Value}{l:List Nd}(h:cJ w B u l)(hb:Below w.heap.size w w'):cJ w' B u l:=d4.up h hb
theorem cJ.mono{w:World}{B B':Nat}{u:Value}{l:List Nd}(h:cJ w B u l)(hb:B'<=B):cJ w B' u l:=d4.mono h hb
theorem cJ.keep{w w':World}{B p:Nat}{u:Value}{l:List Nd}(h:cJ w B u l)(hg:w.grownBy w' (some p))(hp:p<B):cJ w' B u l:=
 d4.keep h hg (by
  cases hq:u.ownBlock with
  |none=>exact .inl rfl
  |some b=>
   have:=(d4.lt h b hq).1;refine .inr (fun e=>?_);have:=qp e;omega)
theorem yZ(x:Nd):∀u∈ndC x,u.oneCell'=true:=by
 intro u hu;simp[ndC]at hu;rcases hu with rfl|rfl|rfl|rfl|rfl|rfl|rfl|rfl<;>rfl
theorem q0C(l:List Nd):∀x∈l.map ndC,x.length=8:=by
 intro x hx;obtain⟨y,-,rfl⟩:=List.mem_map.1 hx
 rfl
theorem q0D(l:List Nd):∀u∈(l.map ndC).flatten,u.oneCell'=true:=by
 intro u hu;obtain⟨z,hz,hu⟩:=List.mem_flatten.1 hu;obtain⟨y,-,rfl⟩:=List.mem_map.1 hz;exact yZ y u hu
theorem aO.form{w:World}{v:Value}{l:List Nd}(h:aO w v l):∃oa cap,v=.slice oa l.length cap:=by
 obtain⟨oa,cap,b,off,hv,-,-⟩:=h.open;exact⟨oa,cap,hv⟩
theorem cJ.form{w:World}{B:Nat}{v:Value}{l:List Nd}(h:cJ w B v l):∃oa cap,v=.slice oa l.length cap:=h.at.form
theorem cJ.lt{w:World}{B:Nat}{u:Value}{l:List Nd}(h:cJ w B u l):∀b,u.ownBlock=some b->B<=b/\b<w.heap.size:=d4.lt h
end Go.Cm
namespace Go.Cm
def mD(ll:List (List Nd)):Prop:=∀l∈ll,∀x∈l,NdQ x
noncomputable def kX(l:List Nd):Lng:=q2e (gL l)
theorem wZ(n:Nat)(P:Nat->Prop):mK (n+1) P=mK n P++(if @decide (P n) (Classical.propDecidable _)then [n]else []):=by
 unfold mK;rw[jx,List.filter_append]
 congr 1
 rw[jS]
 rfl
theorem q1w{ll:List (List Nd)}(h:oC ll=0):(∀l∈ll,Chk l)/\1+(ll.map eR).sum<=3000/\ll.length<=32/\0<ll.length:=by
 unfold oC at h;by_cases c1:ll.length=0
 ·rw[qv c1]at h;cases h
 rw[qu c1]at h;by_cases c2:32<ll.length
 ·rw[qv c2]at h;cases h
 rw[qu c2]at h;by_cases c3:∀l∈ll,Chk l
 ·rw[qu (fun h=>h c3)]at h
  by_cases c4:3000<1+(ll.map eR).sum
  ·rw[qv c4]at h;cases h
  exact⟨c3,by omega,by omega,by omega⟩
 rw[qv c3]at h;cases h
end Go.Cm
namespace Go.Cm
open Go.RowKit Go.Proofs
theorem Sl.mid{P:Program}{w:World}{v:Value}{l:List Value}(h:Sl w v l)(t E:TypeId)(ht:P.underlying t=some (.slice E))(hE:(P.info? E).map (·.size)=some 1)(n m:Nat)(hn:n<=m)(hm:m<=l.length):
  ∃u,(∀W:World,(Instr.sliceAt t v (some (.int .i64 (n:Int))) (some (.int .i64 (m:Int))) none).run P W=.ok u W)/\Sl w u ((l.drop n).take (m-n)):=by
 obtain⟨oa,cap,b,off,rfl,hd,hc⟩:=h;obtain⟨h1,h2⟩:=mS t E ht hE;have hcap:=hd.hcap;have hl:((l.drop n).take (m-n)).length=m-n:=by rw[qW,j3];omega
 refine⟨sliced oa n m cap 1,fun W=>?_,?_⟩
 ·rw[run_sliceAt_slice (P:=P) (t:=t) (h:=h1),run_slice_lh (t:=t) (ht:=h1) (h0:=by omega) (h1:=by omega) (h2:=by omega),h2]
  simp[Result.andThen]
 refine⟨if cap=n then oa else oa.map (·.add (n*1)),cap-n,b,off+n,by rw[hl];simp[sliced],⟨fun h0=>?_,by omega,by have:=hd.hmax;omega,by have:=hd.hsml;omega,fun h0=>hd.hblk (by omega)⟩,fun i hi=>?_⟩
 ·rw[hl]at h0
  rw[qu (by omega),hd.hat (by omega)];simp[gH]
 rw[hl]at hi;rw[jJ,hc (n+i) (by omega)];simp[List.getD,hi]
theorem dO.one{w:World}{v:Value}{ll:List (List Nd)}(h:dO w v ll)(i:Nat)(hi:i<ll.length):
  ∃u,(∀W:World,(Instr.sliceAt 22 v (some (.int .i64 (i:Int))) (some (.int .i64 ((i:Int)+1))) none).run prog W=.ok u W)/\dO w u [ll.getD i []]:=by
 obtain⟨vs,h1,h2,h3⟩:=h;obtain⟨u,hu,hs⟩:=h1.mid (P:=prog) 22 39 underlying22 (by kernel_rfl) i (i+1) (jc _) (by omega);refine⟨u,fun W=>by have:=hu W;push_cast at this;exact this,[vs.getD i undef],?_,rfl,fun j hj=>?_⟩
 ·have e:(vs.drop i).take (i+1-i)=[vs.getD i undef]:=by
   rw[Nat.add_sub_cancel_left];rw[jC (show i<vs.length by omega),List.take_succ_cons,List.take_zero];simp[List.getD,show i<vs.length by omega]
  rw[e]at hs;exact hs
 obtain rfl:j=0:=by simpa using hj
 exact h3 i hi
theorem q0E(n:Nat)(P:Nat->Prop):(mK n P).Pairwise (· < ·):=List.Pairwise.filter _ List.pairwise_lt_range
noncomputable def q2g(e:List (List Ed))(F:Int)(r st:List Int)(c:Nat):List Nat:=if q1r e F r then q3n e st c else []
end Go.Cm
namespace Go.Cm
def xA(e:List (List Ed)):List Ed:=e.flatten.filter (fun x=> !x.free)
def iV(l:List Ed)(c:Nat):List Bool:=l.map (fun x=>kV x c)
def mO:List Nat:=List.range 256
theorem v8{c:Nat}:c∈mO↔c<256:=by simp[mO]
theorem rB:mO.length=256:=by simp[mO]
theorem C7{c:Nat}(h:c<256):mO.getD c 0=c:=by simp[mO,List.getD,h]
def kY(l:List Ed)(c:Nat):Nat:=kK (iV l) mO c
def cP(l:List Ed):List Nat:=aQ (iV l) mO
theorem z3{l:List Ed}{a b:Nat}:iV l a=iV l b↔∀x∈l,kV x a=kV x b:=by
 unfold iV
 induction l with
 |nil=>simp
 |cons y l ih=>simp only[qI,List.cons.injEq,ih,jK,forall_eq_or_imp]
theorem J7{l:List Ed}{c:Nat}(h:c∈cP l):c<256:=v8.1 (iO h)
theorem tQ(l:List Ed):(cP l).length<=256:=by
 have:=tP (iV l) mO;rw[rB]at this;exact this
theorem q0F(l:List Ed){c:Nat}(h:c<256):kY l c<(cP l).length:=C2 (v8.2 h)
theorem q0G(l:List Ed){c:Nat}(h:c<256):iV l ((cP l).getD (kY l c) 0)=iV l c:=by
 unfold kY cP kK
 have h1:iV l c∈(aQ (iV l) mO).map (iV l):=by
  rw[iN,lZ];exact jd (v8.2 h)
 generalize aQ (iV l) mO=hs at*;have h2:=fE h1;have h3:=kJ h1;rw[ju]at h3;rw[qA]at h2;rw[qt,qx h2,qM];exact h3
def gY(x:Ed):Int×Int×Int×Int:=(x.a,x.b,x.c,x.d)
theorem C8{x y:Ed}(h:gY x=gY y)(c:Nat):kV x c=kV y c:=by
 simp only[gY,Prod.mk.injEq]at h;obtain⟨h1,h2,h3,h4⟩:=h;unfold kV;rw[h1,h2,h3,h4]
def q5v(e:List (List Ed))(c:Nat):Nat:=kY (xA e) c
def R4(e:List (List Ed)):List Nat:=cP (xA e)
def q0H(e:List (List Ed)):List Int:=nl (mO.map (q5v e))
section
variable {α : Type} [DecidableEq α]
def goS(nx:α->List α)(z:α):Nat->Nat->List α->Option (List α)
 |0,_,_=>none
 |f+1,i,ls=>if i<ls.length then(if 1000<((nx (ls.getD i z)).foldl bG ls).length then none else goS nx z f (i+1) ((nx (ls.getD i z)).foldl bG ls))else some ls
def stS(nx:α->List α)(s0:α)(l:List α):List α:=yE (s0::l.flatMap nx)
structure J8(nx:α->List α)(s0:α)(l:List α):Prop where
 more:∀j,j<l.length->j<(stS nx s0 (l.take j)).length
 all:stS nx s0 l=l
 len:l.length<=1000
 nod:l.Nodup
theorem C9(nx:α->List α)(s0:α)(l:List α)(x:α):stS nx s0 (l++[x])=(nx x).foldl bG (stS nx s0 l):=by
 unfold stS;rw[a9,<-jl,sE];simp
theorem q2h(nx:α->List α)(z s0:α):∀f i ls R,goS nx z f i ls=some R->i<=ls.length->stS nx s0 (ls.take i)=ls->(∀j,j<i->j<(stS nx s0 (ls.take j)).length)->ls.length<=1000->J8 nx s0 R/\∃k,R=ls++k:=by
 intro f
 induction f with
 |zero=>intro i ls R h;cases h
 |succ f ih=>
  intro i ls R h hi hall q7O hlen;unfold goS at h;by_cases hlt:i<ls.length
  ·rw[qv hlt]at h
   split at h
   ·cases h
   rename_i h1;obtain⟨k,hk⟩:=bK (nx (ls.getD i z)) ls;have hg:ls.getD i z=ls[i]:=by simp[List.getD,hlt]
   have htk:∀j,j<=ls.length->(((nx (ls.getD i z)).foldl bG ls).take j)=ls.take j:=fun j hj=>by
    rw[hk,List.take_append_of_le_length hj]
   obtain⟨h2,k2,h3⟩:=ih (i+1) _ R h (by rw[hk,qj];omega) (by
    rw[htk _ hlt,qL hlt,C9,hall,<-hg]) (fun j hj=>by
    rw[htk j (by omega)];rcases Nat.lt_succ_iff_lt_or_eq.1 hj with h|rfl
    ·exact q7O j h
    rw[hall];exact hlt) (by omega)
   exact⟨h2,k++k2,by rw[h3,hk,qk]⟩
  rw[qu hlt]at h;obtain rfl:ls=R:=by injection h
  have hi':i=ls.length:=by omega
  subst hi';rw[j0]at hall;refine⟨⟨q7O,hall,hlen,?_⟩,[],by simp⟩;rw[<-hall];exact J6 _
theorem J8.mem{nx:α->List α}{s0:α}{R:List α}(h:J8 nx s0 R){L x:α}(hL:L∈R)(hx:x∈nx L):x∈R:=by
 rw[<-h.all];unfold stS;rw[lZ];exact qX _ (List.mem_flatMap.2 ⟨L,hL,hx⟩)
theorem J8.zero{nx:α->List α}{s0:α}{R:List α}(h:J8 nx s0 R)(z:α):R.getD 0 z=s0/\0<R.length:=by
 have:∃k,stS nx s0 R=[s0]++k:=sF [s0] _;obtain⟨k,hk⟩:=this;rw[h.all]at hk;rw[hk];exact⟨rfl,by simp⟩
theorem J8.pre{nx:α->List α}{s0:α}{R:List α}(h:J8 nx s0 R)(i:Nat):∃k,R=stS nx s0 (R.take i)++k:=by
 have h1:=sF (s0::(R.take i).flatMap nx) ((R.drop i).flatMap nx);rw[jl,<-a9,j7]at h1;obtain⟨k,hk⟩:=h1;exact⟨k,by rw[<-h.all];exact hk.trans (by rw[h.all];rfl)⟩
end
end Go.Cm
namespace Go.Cm
section
variable {α : Type} [DecidableEq α]
def xB(nx:α->List α)(s0 z:α)(R:List α)(i j:Nat):List α:=((nx (R.getD i z)).take j).foldl bG (stS nx s0 (R.take i))
theorem J8.cur{nx:α->List α}{s0 z:α}{R:List α}(h:J8 nx s0 R){i:Nat}(hi:i<R.length)(j:Nat):∃k,R=xB nx s0 z R i j++k:=by
 obtain⟨k2,h2⟩:=h.pre (i+1);have e:R.take (i+1)=R.take i++[R.getD i z]:=by rw[qL hi];simp[List.getD,hi]
 rw[e,C9]at h2
 have h3:(nx (R.getD i z)).foldl bG (stS nx s0 (R.take i))=((nx (R.getD i z)).drop j).foldl bG (xB nx s0 z R i j):=by
  unfold xB;rw[<-qY,j7]
 obtain⟨k1,h4⟩:=bK ((nx (R.getD i z)).drop j) (xB nx s0 z R i j);exact⟨k1++k2,h2.trans (by rw[h3,h4,qk])⟩
theorem J8.step{nx:α->List α}{s0 z:α}{R:List α}(h:J8 nx s0 R){i:Nat}(hi:i<R.length){j:Nat}(hj:j<(nx (R.getD i z)).length):
  ((nx (R.getD i z)).getD j z∈xB nx s0 z R i j->idx R ((nx (R.getD i z)).getD j z)<(xB nx s0 z R i j).length/\(xB nx s0 z R i (j+1)).length=(xB nx s0 z R i j).length)/\
  ((nx (R.getD i z)).getD j z∉xB nx s0 z R i j->idx R ((nx (R.getD i z)).getD j z)=(xB nx s0 z R i j).length/\(xB nx s0 z R i (j+1)).length=(xB nx s0 z R i j).length+1):=by
 have e:xB nx s0 z R i (j+1)=bG (xB nx s0 z R i j) ((nx (R.getD i z)).getD j z):=by
  unfold xB;generalize nx (R.getD i z)=l at hj⊢;rw[qL hj,qY];simp[List.getD,hj]
 obtain⟨k,hk⟩:=h.cur (z:=z) hi j;obtain⟨k',hk'⟩:=h.cur (z:=z) hi (j+1);generalize (nx (R.getD i z)).getD j z=x at*;generalize xB nx s0 z R i j=c at*;generalize xB nx s0 z R i (j+1)=c' at*;subst e
 constructor
 ·intro hx
  refine⟨?_,by unfold bG;rw[qv hx]⟩;rw[hk,cI hx];exact fE hx
 intro hx;have e2:bG c x=c++[x]:=by unfold bG;rw[qu hx]
 rw[e2]at hk'⊢;refine⟨?_,by simp⟩;rw[hk',cI (by simp),e9 hx]
end
def z7:Dfa:=⟨List.replicate 256 0,[],[]⟩
noncomputable def gP(e:List (List Ed))(F:Int)(r:List Int)(L:List Nat):List (List Nat):=(R4 e).map fun c=>q2g e F r (nz L) c
noncomputable def R9(e:List (List Ed))(F:Int)(r:List Int):Option (List (List Nat)):=goS (gP e F r) [] 1001 0 [q5u e F r [F]]
def q4C(r:List Int)(o:Int)(s:Nat):Int:=if 0<=r.getD s 0/\(o<0\/r.getD s 0<o)then r.getD s 0 else o
def S0(r:List Int)(L:List Nat):Int:=L.foldl (q4C r) (-1)
noncomputable def nL(e:List (List Ed))(F:Int)(r:List Int)(R:List (List Nat))(L:List Nat):List Int:=(gP e F r L).map fun x=>(idx R x:Int)
noncomputable def q5d(e:List (List Ed))(F:Int)(r:List Int)(R:List (List Nat)):Dfa:=⟨q0H e,R.map (nL e F r R),R.map (S0 r)⟩
theorem xC(n:Nat)(P:Nat->Prop):(mK n P=[]/\∀k,k<n->¬P k)\/∃k tl,mK n P=k::tl/\k<n/\P k/\∀j,j<k->¬P j:=by
 cases h:mK n P with
 |nil=>exact .inl ⟨rfl,fun k hk hp=>by have:k∈mK n P:=r0.2 ⟨hk,hp⟩;rw[h]at this;cases this⟩
 |cons k tl=>
  have hk:k∈mK n P:=by rw[h];simp
  obtain⟨h1,h2⟩:=r0.1 hk;refine .inr ⟨k,tl,rfl,h1,h2,fun j hj hp=>?_⟩;have hjm:j∈mK n P:=r0.2 ⟨by omega,hp⟩;have hs:=q0E n P;rw[h]at hs hjm;rcases List.mem_cons.1 hjm with e|hm
  ·omega
  have:=(List.pairwise_cons.1 hs).1 j hm;omega
end Go.Cm
namespace Go.Cm
def T5(l:List Nat):Int:=match l with|[]=> -1|k::_=>k
end Go.Cm
namespace Go.Cm
open Go.RowKit Go.Proofs
theorem q3H(w:World)(x:Nat)(X Z:Array Value)(hX:X=(wsV x).toArray)(hZ:Z=z4):
  fP ((w.alloc (.cells X 54)).alloc (.cells Z 54)) w.heap.size x/\fP ((w.alloc (.cells X 54)).alloc (.cells Z 54)) (w.heap.size+1) 0:=by
 refine⟨(show fP (w.alloc (.cells X 54)) w.heap.size x by rw[hX];exact m4 w x).up (aB _ _),?_⟩;have:=fH (w.alloc (.cells X 54)) Z hZ;rwa [show(w.alloc (.cells X 54)).heap.size=w.heap.size+1 by simp]at this
theorem q2t(x:Nat)(c:UInt8)(w:World):Calls prog 95 #[dU x,.int .u8 (c.toNat:Nat)] w (eG (x|||2^c.toNat) w):=by
 have hz:=nQ;obtain⟨Z,hZ⟩:∃Z,Z=z4:=⟨_,rfl⟩;rw[<-hZ]at hz;obtain⟨X,hX⟩:∃X,X=(wsV x).toArray:=⟨_,rfl⟩;obtain⟨hb0,hb2⟩:=q3H w x X Z hX hZ;have hlt:=c.toNat_lt;obtain⟨k,hk⟩:∃k,k=c.toNat:=⟨_,rfl⟩;rw[<-hk]at hlt⊢;have hk4:k/64<4:=by omega
 have hcell:=hb0.cell hk4;have hfr:=hb0.free (k/64)
 have hX2:X.setIfInBounds (k/64) (.int .u64 (bits .or .u64 ((wdR x (k/64):Nat):Int) (IntKind.u64.wrap ((2:Int)^(k%64)))))=(wsV (x|||2^k)).toArray:=by
  rw[q3E,hX,<-V0 (x:=x) (y:=x|||2^k) hk4 (fun j _=>K7 j)];simp
 obtain⟨hc0,hc2⟩:=q3H w _ _ Z hX2 hZ;have HS:=qa hc0;have H2:=qa hc2;have HBL:Hid (Below w.heap.size w ((w.alloc (.cells (X.setIfInBounds (k/64) (.int .u64 (bits .or .u64 ((wdR x (k/64):Nat):Int) (IntKind.u64.wrap ((2:Int)^(k%64)))))) 54)).alloc (.cells Z 54))):=qa aS;rw[show dU x=.agg X by rw[hX];rfl];clear hb0 hb2 hX hX2 hZ hk hc0 hc2;go_enter func95,ntmps95
 go_wp2_with(first
  |(refine aU rfl _ rfl w.heap.size rfl (x|||2^k) HS.o ?_)
  |(refine aL rfl _ _ rfl (w.heap.size+1) rfl 0 _ rfl H2.o ?_;intro w2 hB2 hg2;have HB2:=qa hB2;have HG2:=qa (HBL.o.grown hg2 HBL.o.size (fun q e=>by cases e;exact jc _));clear hB2 hg2))
 refine cL (s:=4) (ad:=⟨w.heap.size+1,0,none⟩) (x:=dU (x|||2^k)) rfl rfl rfl HB2.o.load ?_;exact⟨rfl,aF HG2.o⟩
theorem ofQ(s:ByteArray)(hs:s.size<=1000000)(w:World):Calls prog 87 #[.string s] w (eG (ofS (bys s)) w):=by
 have hix:=fun(i:Nat) (h:i<s.size) (W:World)=>eY (P:=prog) 9 underlying9 h W;have HIX:=qa hix;have HT0:Hid (∀k,k<s.size->ofS ((bys s).take (k+1))=ofS ((bys s).take k)|||2^((bys s).getD k 0).toNat):=qa (fun k h=>by rw[cK (bys s) k 0 (by rw[bH];exact h),q0Q]);have HTE:Hid ((bys s).take s.size=bys s):=qa (by rw[<-bH,j0]);have hz:=nQ;obtain⟨Z,hZ⟩:∃Z,Z=z4:=⟨_,rfl⟩;rw[<-hZ]at hz;have h00:=q3H w 0 Z Z hZ hZ;have HA0:=qa h00.1;have HB0:=qa h00.2;have HBL:Hid (Below w.heap.size w ((w.alloc (.cells Z 54)).alloc (.cells Z 54))):=qa aS;have HWQ:Hid (∀(x:Nat) (c:UInt8) W,Calls prog 95 #[dU x,.int .u8 (c.toNat:Nat)] W (eG (x|||2^c.toNat) W)):=qa (fun x c W=>q2t x c W);clear hix hZ h00;generalize bys s=l at*;go_enter func87,ntmps87;go_wp2
 go_loopg [4] (s.size+1) (fun gk i wr=>∃k:Nat,k<=s.size/\i=.int .i64 k/\fP wr (w.heap.size+1) (ofS (l.take k))/\fP wr w.heap.size 0/\Below w.heap.size w wr/\gk=s.size+1-k)
 case atStart=>exact⟨0,by omega,rfl,HB0.o,HA0.o,HBL.o,rfl⟩
 case round=>
  clear HA0 HB0 HBL;obtain⟨k,hk,rfl,hB,hA,q5T,rfl⟩:=hrel;have HB:=qa hB;have HA:=qa hA;have HBL:=qa q5T;have hsz:=q5T.size;clear hA q5T hB;by_cases hlt:k<s.size
  ·have q67:=HIX.o k hlt
   have HT:=qa (HT0.o k hlt);generalize l.getD k 0=d at*;generalize ofS (l.take k)=x at*;have HG0:Hid (wr.grownBy wr (some (w.heap.size+1))):=qa (fS _ _);go_wp2;refine aH [0,1,2,3] [4] [5] (by kernel_rfl) (by kernel_rfl) ?_;simp only[pk];go_simp
   repeat(first
    |(go_big_quiet_want;refine bR _ rfl (w.heap.size+1) rfl x (fun w' hw=>by obtain⟨y,rfl⟩:=hw;exact HB.o.up (aE ⟨_,rfl⟩)) ?_;go_simp;go_big_quiet_on)
    |(go_big_quiet_step (fail)))
   refine wpQuiet_nil ?_;unfold aD
   go_wp2_with((with_reducible refine(HWQ.o _ _ _).mono ?_);rintro e w3 ⟨rfl,hx⟩;have hb3:=dK (aW wr 1) (aE hx);have HB3:=qa (HB.o.up hb3);have HA3:=qa (HA.o.up hb3);have q8r:=qa (HBL.o.trans (hb3.mono hsz));have HX3:=qa hb3;clear hx hb3)
   refine⟨aF HX3.o,?_⟩;unfold aD;unfold aD
   go_wp2_with(refine aL rfl _ _ rfl (w.heap.size+1) rfl x _ rfl HB3.o ?_;intro w4 hB2 hg2;have HB4:=qa hB2;have HA4:=qa (HA3.o.keep hg2 (by simp));have q9A:=qa (q8r.o.grown hg2 q8r.o.size (fun q e=>by cases e;exact jc _));clear hB2 hg2)
   refine⟨trivial,?_⟩;unfold aD;go_wp2
   go_roundg (s.size-k)
   case rel=>exact⟨k+1,by omega,by go_num,by rw[HT.o];exact HB4.o,HA4.o,q9A.o,by omega⟩
   case measure=>omega
  obtain rfl:k=s.size:=by omega
  rw[HTE.o]at HB
  go_wp2_with(first|(refine aU rfl _ rfl (w.heap.size+1) rfl _ HB.o ?_)|(refine aL rfl _ _ rfl w.heap.size rfl _ _ rfl HA.o ?_;intro w2 hB2 hg2;have HB2:=qa hB2;have HG2:=qa hg2;clear hB2 hg2))
  refine cL (s:=2) (ad:=⟨w.heap.size,0,none⟩) (x:=dU (ofS l)) rfl rfl rfl HB2.o.load ?_;exact⟨rfl,aF (HBL.o.grown HG2.o HBL.o.size (fun k hk=>by cases hk;exact qb _))⟩
theorem q2u{a b k:Nat}(hk:k<=256)(h:b<k\/k=256):q0c a b k=iD a b:=by
 refine jn fun i=>?_;rw[vI,U8];by_cases h1:a<=i/\i<=b
 ·by_cases h2:i<256
  ·rw[qy h2,qy (show i<k by omega)]
  rw[qw h2,qw (show¬i<k by omega)]
 rw[qw h1];simp
theorem W6(a b:Nat):q0c a b a=0:=by
 refine jn fun i=>?_;rw[vI,Nat.zero_testBit];by_cases h1:a<=i/\i<=b
 ·rw[qw (show¬i<a by omega)];simp
 rw[qw h1];simp
theorem xQ(a b:UInt8)(w:World):Calls prog 93 #[.int .u8 (a.toNat:Nat),.int .u8 (b.toNat:Nat)] w (eG (iD a.toNat b.toNat) w):=by
 have hz:=nQ;obtain⟨Z,hZ⟩:∃Z,Z=z4:=⟨_,rfl⟩;rw[<-hZ]at hz;have h00:=q3H w 0 Z Z hZ hZ;have HA0:=qa h00.1;have HB0:=qa h00.2;have HBL:Hid (Below w.heap.size w ((w.alloc (.cells Z 54)).alloc (.cells Z 54))):=qa aS
 have HWQ:Hid (∀(x k:Nat) W,k<256->Calls prog 95 #[dU x,.int .u8 (k:Nat)] W (eG (x|||2^k) W)):=qa (fun x k W hk=>by
  have:=q2t x (UInt8.ofNat k) W;rwa [show(UInt8.ofNat k).toNat=k by simp;omega]at this)
 have ha:=a.toNat_lt;have hb:=b.toNat_lt;generalize a.toNat=a at*;generalize b.toNat=b at*;have HZ:=qa (W6 a b);have HE:=qa (fun k h1 h2=>@q2u a b k h1 h2);clear hZ h00;go_enter func93,ntmps93;go_wp2
 go_loopg [6] (257-a) (fun gk i wr=>∃k:Nat,k<=256/\a<=k/\i=.int .i64 k/\fP wr (w.heap.size+1) (q0c a b k)/\fP wr w.heap.size 0/\Below w.heap.size w wr/\gk=257-k)
 case atStart=>exact⟨a,by omega,qb _,rfl,by rw[HZ.o];exact HB0.o,HA0.o,HBL.o,rfl⟩
 case round=>
  clear HA0 HB0 HBL;obtain⟨k,hk,hak,rfl,hB,hA,q5T,rfl⟩:=hrel;have HB:=qa hB;have HA:=qa hA;have HBL:=qa q5T;have hsz:=q5T.size;clear hA q5T hB;by_cases hlt:k<=b
  ·have HK:=qa (xN a b k)
   rw[qv ⟨hak,hlt⟩]at HK;generalize q0c a b k=x at*;have HWK:=qa (fun W=>HWQ.o x k W (by omega))
   go_wp2_with(first
    |(refine aU rfl _ rfl (w.heap.size+1) rfl _ HB.o ?_)
    |((with_reducible refine(HWK.o _).mono ?_);rintro e w3 ⟨rfl,hx⟩;have hb3:=aE hx;have HB3:=qa (HB.o.up hb3);have HA3:=qa (HA.o.up hb3);have q8r:=qa (HBL.o.trans (hb3.mono hsz));clear hx hb3)
    |(refine aL rfl _ _ rfl (w.heap.size+1) rfl x _ rfl HB3.o ?_;intro w4 hB2 hg2;have HB4:=qa hB2;have HA4:=qa (HA3.o.keep hg2 (by simp));have q9A:=qa (q8r.o.grown hg2 q8r.o.size (fun q e=>by cases e;exact jc _));clear hB2 hg2))
   go_roundg (256-k)
   case rel=>exact⟨k+1,by omega,by omega,by go_num,by rw[HK.o];exact HB4.o,HA4.o,q9A.o,by omega⟩
   case measure=>omega
  rw[HE.o k hk (.inl (by omega))]at HB
  go_wp2_with(first|(refine aU rfl _ rfl (w.heap.size+1) rfl _ HB.o ?_)|(refine aL rfl _ _ rfl w.heap.size rfl _ _ rfl HA.o ?_;intro w2 hB2 hg2;have HB2:=qa hB2;have HG2:=qa hg2;clear hB2 hg2))
  refine cL (s:=4) (ad:=⟨w.heap.size,0,none⟩) (x:=dU (iD a b)) rfl rfl rfl HB2.o.load ?_;exact⟨rfl,aF (HBL.o.grown HG2.o HBL.o.size (fun k hk=>by cases hk;exact qb _))⟩
def edX(x:Nat):Ed:=⟨0,false,(wdR x 0:Nat),(wdR x 1:Nat),(wdR x 2:Nat),(wdR x 3:Nat)⟩
theorem q5A(x k:Nat)(hk:k<256):kV (edX x) k=x.testBit k:=by
 have e:kV (edX x) k=(((wdR x (k/64):Nat):Int)/2^(k%64)%2==1):=by
  unfold kV edX
  have h2:(if k<64 then((wdR x 0:Nat):Int)else if k<128 then((wdR x 1:Nat):Int)else if k<192 then((wdR x 2:Nat):Int)else((wdR x 3:Nat):Int))=((wdR x (k/64):Nat):Int):=by
   (repeat' split)<;>first|(rw[show k/64=0 by omega])|(rw[show k/64=1 by omega])|(rw[show k/64=2 by omega])|(rw[show k/64=3 by omega])
  rw[<-h2]
 have h3:=K6 x (k/64) (k%64);rw[qy (jU k (by decide)),j5,show 64*(k/64)+k%64=k by omega]at h3;rw[e,<-h3,Nat.testBit_eq_decide_div_mod_eq];have h4:((wdR x (k/64):Nat):Int)/2^(k%64)%2=((wdR x (k/64)/2^(k%64)%2:Nat):Int):=by norm_cast
 rw[h4,jj];simp;omega
theorem q5g(x k:Nat)(hk:k<256)(w:World):Calls prog 76 #[dU x,.int .u8 (k:Nat)] w fun e w'=>e=.returned (.bool (x.testBit k))/\∃y,w'=ext w y:=by
 have:=q5c (w:=w) (edX x) (fun q=>by unfold kF edX;simp only;(repeat' split)<;>omega) k hk;rw[q5A x k hk]at this;exact this
theorem W7 (x : Nat) (w : World) : Calls prog 92 #[dU x] w fun e w' => e = .returned (.string ⟨(mF x 256).toArray⟩) ∧ ∃ y, w' = ext w y := by
  obtain ⟨X, hX⟩ : ∃ X, X = (wsV x).toArray := ⟨_, rfl⟩
  have HB0 : Hid (fP (w.alloc (.cells X 54)) w.heap.size x) := qa (by rw [hX]; exact m4 w x)
  have HB1 : Hid (Below w.heap.size w (w.alloc (.cells X 54))) := qa (aB _ _)
  have HHQ : Hid (∀ k W, k < 256 → Calls prog 76 #[dU x, .int .u8 (k : Nat)] W fun e w' => e = .returned (.bool (x.testBit k)) ∧ ∃ y, w' = ext W y) := qa (fun k W hk => q5g x k hk W)
  rw [show dU x = .agg X by rw [hX]; rfl]
  clear hX
  go_enter func92, ntmps92
  go_wp2
  go_loopg [3, 4] 257 (fun gk vb iv wr => ∃ k : Nat, k ≤ 256 ∧ iv = .int .i64 k ∧ Own wr w.heap.size 5 vb (dF (mF x k)) ∧ fP wr w.heap.size x ∧ (∀ q, vb.ownBlock = some q → w.heap.size < q) ∧ Below w.heap.size w wr ∧ gk = 257 - k)
  case atStart => exact ⟨0, by omega, rfl, Own.nil _ _ _, HB0.o, (by intro q h; cases h), HB1.o, rfl⟩
  case round =>
    clear HB0 HB1
    obtain ⟨k, hk, rfl, hO, hS, hq, hB, rfl⟩ := hrel
    have HO := qa hO
    have HS := qa hS
    have HB := qa hB
    have HQ := qa hq
    clear hO hS hB hq
    by_cases hlt : k < 256
    · have HHK := qa (fun W => HHQ.o k W hlt)
      have HK := qa (xO x k)
      have HL := qa (nR x k)
      cases hb : x.testBit k with
      | true =>
        rw [hb] at HHK HK
        have HBV : Hid (dF (mF x (k + 1)) = dF (mF x k) ++ [Value.int .u8 (k : Int)]) := qa (by
          rw [HK.o, qv rfl, vC, q0P k hlt])
        have HBL : Hid ((dF (mF x k)).length ≤ 256) := qa (by have := HL.o; rw [fF]; omega)
        clear HK HL hb
        generalize dF (mF x k) = bs at *
        go_wp2_with (first
          | (refine aU rfl _ rfl w.heap.size rfl _ HS.o ?_)
          | ((with_reducible refine (HHK.o _).mono ?_); rintro e w3 ⟨rfl, hx3⟩; have hb3 := aE hx3; have HO3 := qa (HO.o.up hb3); have HS3 := qa (HS.o.up hb3); have HB3 := qa (HB.o.trans (hb3.mono HB.o.size)); clear hx3 hb3
             have hlW := qa (aB w3 (.cells #[.int .u8 (k : Int)] 5))
             have HX : Hid (Sl (w3.alloc (.cells #[.int .u8 (k : Int)] 5)) (.slice (some ⟨w3.heap.size, 0, none⟩) 1 1) [.int .u8 (k : Int)]) := qa (by simpa using fZ w3 #[.int .u8 (k : Int)] 5 (by simp))
             have HO4 := qa (HO3.o.up hlW.out); have HS4 := qa (HS3.o.up hlW.out); have HB4 := qa (HB3.o.trans (hlW.out.mono HB3.o.size))
             have HLE : Hid (bs.length + [Value.int .u8 (k : Int)].length ≤ 4294967296) := qa (by have := HBL.o; simp; omega))
          | (at_builtin; refine bU rfl (.tmp 13) (.tmp 16) 59 rfl w.heap.size 5 (.int .u8 0) 1 underlying59 (by kernel_rfl) rfl (by decide) _ bs rfl HO4.o (.slice (some ⟨w3.heap.size, 0, none⟩) 1 1) [.int .u8 (k : Int)] rfl HX.o (by intro u hu; simp only [jf] at hu; subst hu; rfl) HLE.o HB4.o.size ?_; intro v' w5 hown1 hg1 hk1; have HO5 := qa hown1; have HQ5 : Hid (∀ q, v'.ownBlock = some q → w.heap.size < q) := qa (fun q e => (hk1 q e).elim (fun h => HQ.o q h) (fun h => by have := HS4.o.lt; omega)); have HS5 := qa (HS4.o.keep hg1 (fun e => by have := HQ.o _ e; omega)); have HB5 := qa (HB4.o.grown hg1 HB4.o.size (fun q e => jp (HQ.o q e))); clear hown1 hg1 hk1))
        go_roundg (256 - k)
        case measure => omega
        case rel => exact ⟨k + 1, by omega, by go_num, by rw [HBV.o]; exact HO5.o, HS5.o, HQ5.o, HB5.o, by omega⟩
      | false =>
        rw [hb] at HHK HK
        have HBV : Hid (mF x (k + 1) = mF x k) := qa (by rw [HK.o]; simp)
        clear HK HL hb
        go_wp2_with (first
          | (refine aU rfl _ rfl w.heap.size rfl _ HS.o ?_)
          | ((with_reducible refine (HHK.o _).mono ?_); rintro e w3 ⟨rfl, hx3⟩; have hb3 := aE hx3; have HO3 := qa (HO.o.up hb3); have HS3 := qa (HS.o.up hb3); have HB3 := qa (HB.o.trans (hb3.mono HB.o.size)); clear hx3 hb3))
        go_roundg (256 - k)
        case measure => omega
        case rel => exact ⟨k + 1, by omega, by go_num, by rw [HBV.o]; exact HO3.o, HS3.o, HQ.o, HB3.o, by omega⟩
    · obtain rfl : k = 256 := by omega
      have hcv := eX (P := prog) wr 59 9 5 underlying59 underlying5 underlying9 _ _ HO.o.sl
      go_wp2
      go_ret
      exact ⟨rfl, aF HB.o⟩
theorem q5h{x:Nat}(hx:x<2^256)(w:World):Calls prog 86 #[dU x] w (eG (vZ x) w):=by
 have hz:=nQ;obtain⟨Z,hZ⟩:∃Z,Z=z4:=⟨_,rfl⟩;rw[<-hZ]at hz;obtain⟨X,hX⟩:∃X,X=(wsV x).toArray:=⟨_,rfl⟩;have h1:=q3H w x X Z hX hZ;have H0:Hid (fP (((w.alloc (.cells X 54)).alloc (.cells Z 54)).alloc (.cells Z 54)) w.heap.size x):=qa (h1.1.up (aB _ _));have H1:Hid (fP (((w.alloc (.cells X 54)).alloc (.cells Z 54)).alloc (.cells Z 54)) (w.heap.size+1) 0):=qa (h1.2.up (aB _ _))
 have H2:Hid (fP (((w.alloc (.cells X 54)).alloc (.cells Z 54)).alloc (.cells Z 54)) (w.heap.size+2) 0):=qa (by
  have:=fH ((w.alloc (.cells X 54)).alloc (.cells Z 54)) Z hZ;rwa [show((w.alloc (.cells X 54)).alloc (.cells Z 54)).heap.size=w.heap.size+2 by simp]at this)
 have HBL:Hid (Below w.heap.size w (((w.alloc (.cells X 54)).alloc (.cells Z 54)).alloc (.cells Z 54))):=qa aS;have HHQ:Hid (∀k W,k<256->Calls prog 76 #[dU x,.int .u8 (k:Nat)] W fun e w'=>e=.returned (.bool (x.testBit k))/\∃y,w'=ext W y):=qa (fun k W hk=>q5g x k hk W)
 have HWQ:Hid (∀(y k:Nat) W,k<256->Calls prog 95 #[dU y,.int .u8 (k:Nat)] W (eG (y|||2^k) W)):=qa (fun y k W hk=>by
  have:=q2t y (UInt8.ofNat k) W;rwa [show(UInt8.ofNat k).toNat=k by simp;omega]at this)
 have HE:=qa (q0U hx);rw[<-HE.o,show dU x=.agg X by rw[hX];rfl];clear hX hZ h1;go_enter func86,ntmps86;go_wp2
 go_loopg [4] 257 (fun gk iv wr=>∃k:Nat,k<=256/\iv=.int .i64 k/\fP wr w.heap.size x/\fP wr (w.heap.size+1) 0/\fP wr (w.heap.size+2) (q0T x k)/\Below w.heap.size w wr/\gk=257-k)
 case atStart=>exact⟨0,by omega,rfl,H0.o,H1.o,H2.o,HBL.o,rfl⟩
 case round=>
  clear H0 H1 H2 HBL;obtain⟨k,hk,rfl,h0,h1,h2,hB,rfl⟩:=hrel;have H0:=qa h0;have H1:=qa h1;have H2:=qa h2;have HB:=qa hB;clear h0 h1 h2 hB;by_cases hlt:k<256
  ·have HHK:=qa (fun W=>HHQ.o k W hlt)
   have HK:=qa (V4 x k);cases hb:x.testBit k with
   |true=>
    rw[hb]at HHK HK;rw[qv rfl]at HK;clear hb
    go_wp2_with(first
     |(refine aU rfl _ rfl w.heap.size rfl _ H0.o ?_)
     |((with_reducible refine(HHK.o _).mono ?_);rintro e w3 ⟨rfl,hx3⟩;have hb3:=aE hx3;have H03:=qa (H0.o.up hb3);have H13:=qa (H1.o.up hb3);have H23:=qa (H2.o.up hb3);have HB3:=qa (HB.o.trans (hb3.mono HB.o.size));clear hx3 hb3))
    go_roundg (256-k)
    case measure=>omega
    case rel=>exact⟨k+1,by omega,by go_num,H03.o,H13.o,by rw[HK.o];exact H23.o,HB3.o,by omega⟩
   |false=>
    rw[hb]at HHK HK;rw[qu (by simp)]at HK;clear hb;generalize q0T x k=y at*;have HWK:=qa (fun W=>HWQ.o y k W hlt)
    go_wp2_with(first
     |(refine aU rfl _ rfl w.heap.size rfl _ H0.o ?_)
     |((with_reducible refine(HHK.o _).mono ?_);rintro e w3 ⟨rfl,hx3⟩;have hb3:=aE hx3;have H03:=qa (H0.o.up hb3);have H13:=qa (H1.o.up hb3);have H23:=qa (H2.o.up hb3);have HB3:=qa (HB.o.trans (hb3.mono HB.o.size));clear hx3 hb3)
     |(refine aU rfl _ rfl (w.heap.size+2) rfl _ H23.o ?_)
     |((with_reducible refine(HWK.o _).mono ?_);rintro e w4 ⟨rfl,hx3⟩;have hb3:=aE hx3;have H04:=qa (H03.o.up hb3);have H14:=qa (H13.o.up hb3);have H24:=qa (H23.o.up hb3);have HB4:=qa (HB3.o.trans (hb3.mono HB3.o.size));clear hx3 hb3)
     |(refine aL rfl _ _ rfl (w.heap.size+2) rfl y _ rfl H24.o ?_;intro w5 hB2 hg2;have H25:=qa hB2;have H05:=qa (H04.o.keep hg2 (by simp));have H15:=qa (H14.o.keep hg2 (by simp));have HB5:=qa (HB4.o.grown hg2 HB4.o.size (fun q e=>by cases e;omega));clear hB2 hg2))
    go_roundg (256-k)
    case measure=>omega
    case rel=>exact⟨k+1,by omega,by go_num,H05.o,H15.o,by rw[HK.o];exact H25.o,HB5.o,by omega⟩
  obtain rfl:k=256:=by omega
  go_wp2_with(first|(refine aU rfl _ rfl (w.heap.size+2) rfl _ H2.o ?_)|(refine aL rfl _ _ rfl (w.heap.size+1) rfl _ _ rfl H1.o ?_;intro w2 hB2 hg2;have HB2:=qa hB2;have HG2:=qa hg2;clear hB2 hg2))
  refine cL (s:=2) (ad:=⟨w.heap.size+1,0,none⟩) (x:=dU (q0T x 256)) rfl rfl rfl HB2.o.load ?_;exact⟨rfl,aF (HB.o.grown HG2.o HB.o.size (fun k hk=>by cases hk;exact jc _))⟩
def xR(N:Nat)(f:Nat->Bool):List Value:=(List.range N).map fun q=>.bool (f q)
def vL(N:Nat)(G:Nat->Nat->Bool):List (List Value):=(List.range N).map fun p=>xR N (G p)
@[simp] theorem F2(N:Nat)(f:Nat->Bool):(xR N f).length=N:=by simp[xR]
@[simp] theorem sP(N:Nat)(G:Nat->Nat->Bool):(vL N G).length=N:=by simp[vL]
theorem F3{N:Nat}{f:Nat->Bool}{q:Nat}(h:q<N):(xR N f).getD q undef=.bool (f q):=by simp[xR,List.getD,h]
theorem xS{N:Nat}{G:Nat->Nat->Bool}{p:Nat}(h:p<N):(vL N G).getD p []=xR N (G p):=by simp[vL,List.getD,h]
def upd(G:Nat->Nat->Bool)(p q:Nat)(b:Bool):Nat->Nat->Bool:=fun p' q'=>if p'=p/\q'=q then b else G p' q'
theorem q0W(N:Nat)(G:Nat->Nat->Bool)(p q:Nat)(b:Bool):(xR N (G p)).set q (.bool b)=xR N (upd G p q b p):=by
 refine jT (by simp) fun i h1 h2=>?_;rw[List.getElem_set];have hi:i<N:=by simpa using h2
 simp only[xR,ju,List.getElem_range,upd];by_cases h:q=i
 ·subst h;simp
 rw[qu h,qu (fun e=>h e.2.symm)]
theorem W9(N:Nat)(G:Nat->Nat->Bool)(p q:Nat)(b:Bool):(vL N G).set p (xR N (upd G p q b p))=vL N (upd G p q b):=by
 refine jT (by simp) fun i h1 h2=>?_;rw[List.getElem_set];have hi:i<N:=by simpa using h2
 simp only[vL,ju,List.getElem_range];by_cases h:p=i
 ·subst h;simp
 rw[qu h]
 have:G i=upd G p q b i:=by
  funext q'
  unfold upd;rw[qu (fun e=>h e.1.symm)]
 rw[this]
def fW(w:World)(v:Value)(N:Nat)(G:Nat->Nat->Bool):Prop:=rL w v (vL N G)
theorem fW.up{w w':World}{v:Value}{N:Nat}{G:Nat->Nat->Bool}(h:fW w v N G)(hb:Below w.heap.size w w'):fW w' v N G:=rL.up h hb
theorem fW.open{w:World}{v:Value}{N:Nat}{G:Nat->Nat->Bool}(h:fW w v N G):
  ∃oa cap b off,v=.slice oa N cap/\Hd w oa N cap b off/\∀p,p<N->∃op cp bp fp,w.cell? ⟨b,off+p,none⟩=some (.slice op N cp)/\Hd w op N cp bp fp/\∀q,q<N->w.cell? ⟨bp,fp+q,none⟩=some (.bool (G p q)):=by
 obtain⟨oa,cap,b,off,rfl,hd,hc⟩:=rL.open h;rw[sP]at hd hc⊢;refine⟨oa,cap,b,off,rfl,hd,fun p hp=>?_⟩;obtain⟨op,cp,bp,fp,h1,h2,h3,-⟩:=hc p hp;rw[xS hp,F2]at h1 h2 h3;exact⟨op,cp,bp,fp,h1,h2,fun q hq=>by rw[h3 q hq,F3 hq]⟩
def gR(w:World)(B:Nat)(v:Value)(N:Nat)(G:Nat->Nat->Bool):Prop:=∃vs,f8 w B 118 4 v vs (vL N G)
theorem gR.read{w:World}{B:Nat}{v:Value}{N:Nat}{G:Nat->Nat->Bool}(h:gR w B v N G):fW w v N G:=by
 obtain⟨vs,h⟩:=h;exact h.rowsG
theorem gR.up{w w':World}{B:Nat}{v:Value}{N:Nat}{G:Nat->Nat->Bool}(h:gR w B v N G)(hb:Below w.heap.size w w'):gR w' B v N G:=by
 obtain⟨vs,h⟩:=h;exact⟨vs,h.up hb⟩
theorem gR.form{w:World}{B:Nat}{v:Value}{N:Nat}{G:Nat->Nat->Bool}(h:gR w B v N G)(hN:0<N):∃g cap,v=.slice (some ⟨g,0,none⟩) N cap/\B<=g/\Hd w (some ⟨g,0,none⟩) N cap g 0:=by
 obtain⟨vs,h⟩:=h;obtain⟨oa,cap,g,rfl,hd,hb,-⟩:=h.outer.cases;rw[h.len,sP]at hd hb⊢;obtain rfl:=hd.hat hN;exact⟨g,cap,rfl,(hb hN).2,hd⟩
theorem gR.at{w:World}{B g cap:Nat}{N:Nat}{G:Nat->Nat->Bool}(h:gR w B (.slice (some ⟨g,0,none⟩) N cap) N G){p:Nat}(hp:p<N):
  ∃bp cp,w.cell? ⟨g,p,none⟩=some (.slice (some ⟨bp,0,none⟩) N cp)/\Hd w (some ⟨bp,0,none⟩) N cp bp 0/\g<w.heap.size/\B<=bp/\(∀q,q<N->w.cell? ⟨bp,q,none⟩=some (.bool (G p q))/\w.frozen? ⟨bp,q,none⟩=false/\
   ∀b,gR (w.setCell ⟨bp,q,none⟩ (.bool b)) B (.slice (some ⟨g,0,none⟩) N cap) N (upd G p q b)/\w.grownBy (w.setCell ⟨bp,q,none⟩ (.bool b)) (some bp)):=by
 obtain⟨vs,h⟩:=h;have hl:=h.len;rw[sP]at hl;have hr:=h.rows p (by simpa using hp);rw[xS hp]at hr;obtain⟨op,cp,bp,hv,hd,hb,hc,hf,hs⟩:=hr.cases;rw[F2]at hv hd hb hc hf hs;obtain rfl:=hd.hat (by omega);refine⟨bp,cp,by rw[h.outer.cell (by omega),hv],hd,h.outer.blk.2,(hb (by omega)).2,fun q hq=>⟨by rw[hc q hq,F3 hq],hf q hq,fun b=>?_⟩⟩;obtain⟨h1,h2⟩:=hs q (.bool b) hq;rw[q0W]at h1;refine⟨⟨vs,?_⟩,h2⟩;have h3:=h.writeRow (w':=w.setCell ⟨bp,q,none⟩ (.bool b)) (i:=p) (by simpa using hp) h1 (by rw[(hb (by omega)).1];exact h2);rw[W9]at h3;exact h3
theorem K8(N:Nat):List.replicate N (.bool false)=xR N (fun _=>false):=by
 refine jT (by simp) fun i h1 h2=>by simp[xR]
theorem sQ{w:World}{N:Nat}(hN:N<=100000):
  Calls prog 75 #[.int .i64 N] w fun e w'=>∃u,e=.returned u/\gR w' w.heap.size u N (fun _ _=>false)/\Below w.heap.size w w':=by
 have hmk:=q38 (P:=prog) 118 4 (.bool false) 1 N underlying118 (by kernel_rfl) rfl (by decide) (by omega);go_enter func75,ntmps75;go_wp2
 go_loopg [3,4] N (fun gk ov iv wr=>∃(i:Nat) (vs:List Value),iv=.int .i64 i/\i<=N/\f8 wr w.heap.size 118 4 ov vs ((List.range i).map fun _=>xR N (fun _=>false))/\Below w.heap.size w wr/\gk=N-i)
 case atStart=>exact⟨0,[],rfl,qd _,f8.nil _ _ _ _,qn _ _,rfl⟩
 case round=>
  obtain⟨i,vs,rfl,hi,hown,q5T,rfl⟩:=hrel;have HO:=qa hown;have HW:=qa q5T;have hsz:=HW.o.size;have hvl:vs.length=i:=by have:=hown.len;simpa using this
  have HVL:=qa hvl;clear hown q5T hvl;by_cases hlt:i<N
  ·have HA:=qa (aB wr (.cells (madeCells #[.bool false] N) 4))
   have HR:=qa (by simpa only[K8]using q0e wr w.heap.size 4 (.bool false) N hsz (by omega):Own (wr.alloc (.cells (madeCells #[.bool false] N) 4)) w.heap.size 4 (.slice (some ⟨wr.heap.size,0,none⟩) N N) (xR N (fun _=>false)));have HOA:=qa (HO.o.up HA.o);have HFR:=qa (HO.o.free_new (qb wr.heap.size));have q6z:(wr.alloc (.cells (madeCells #[.bool false] N) 4)).heap.size=wr.heap.size+1:=by simp
   have HB1:=qa (HW.o.trans (HA.o.mono hsz));have HLW:=qa (aB (wr.alloc (.cells (madeCells #[.bool false] N) 4)) (.cells #[.slice (some ⟨wr.heap.size,0,none⟩) N N] 118))
   have HSL:Hid (Sl ((wr.alloc (.cells (madeCells #[.bool false] N) 4)).alloc (.cells #[.slice (some ⟨wr.heap.size,0,none⟩) N N] 118)) (.slice (some ⟨wr.heap.size+1,0,none⟩) 1 1) [.slice (some ⟨wr.heap.size,0,none⟩) N N]):=qa (by
    have:=fZ (wr.alloc (.cells (madeCells #[.bool false] N) 4)) #[.slice (some ⟨wr.heap.size,0,none⟩) N N] 118 (by simp);rw[q6z]at this;exact this)
   clear HA
   go_wp2_with(at_builtin;refine bU rfl (.tmp 10) (.tmp 13) 119 rfl w.heap.size 118 (.slice none 0 0) 24 underlying119 (by kernel_rfl) rfl (by decide) u3 vs rfl (HOA.o.up HLW.o).outer (.slice (some ⟨wr.heap.size+1,0,none⟩) 1 1) [.slice (some ⟨wr.heap.size,0,none⟩) N N] rfl HSL.o (by intro z hz;rw[jf]at hz;rw[hz];rfl) (by simp;have:=HVL.o;omega) (qc (qc hsz (by omega)) HLW.o.size) ?_;intro v' w5 hown1 hg1 hk1;have HO1:=qa hown1;have HG1:=qa hg1;have HK1:=qa hk1;clear hown1 hg1 hk1)
   go_roundg (N-(i+1))
   case measure=>omega
   case rel=>
    refine⟨i+1,vs++[.slice (some ⟨wr.heap.size,0,none⟩) N N],by go_num,by omega,?_,iW (HB1.o.trans (HLW.o.mono HB1.o.size)) (qc HB1.o.size HLW.o.size) (HOA.o.up HLW.o).outer HG1.o,rfl⟩;have h:=f8.push HOA.o HR.o HFR.o (aI HLW.o none) HO1.o HG1.o HK1.o;have e:((List.range (i+1)).map fun _=>xR N (fun _=>false))=((List.range i).map fun _=>xR N (fun _=>false))++[xR N (fun _=>false)]:=by rw[jx,qG];rfl
    rw[e];exact h
  have hie:i=N:=by omega
  subst hie;go_wp2;go_ret;exact⟨_,rfl,⟨vs,HO.o⟩,HW.o⟩
theorem q0X{w:World}{N:Nat}(h0:0<N)(hN:N<=100000):
  Calls prog 77 #[.int .i64 N] w fun e w'=>∃u,e=.returned u/\(∃G,fW w' u N G/\∀p q,p<N->q<N->(G p q=true↔p=q))/\Below w.heap.size w w':=by
 have HG:=qa (sQ (w:=w) hN);go_enter func77,ntmps77
 go_upto_region 2 with((with_reducible go_at_call 75);refine HG.o.mono ?_;rintro en w1 ⟨u,rfl,ho,hb⟩;obtain⟨g,cap,rfl,hgb,hd⟩:=ho.form h0;have HO1:=qa ho;have HB1:=qa hb;have HD:=qa hd;clear ho hb hd)
 have q6P:=fun(W:World) (i:Nat) (hi:i<N)=>aZ (P:=prog) 119 118 underlying119 (by kernel_rfl) HD.o W .i64 i (by omega) (by omega);simp only[qC,qH]at q6P;go_wp2
 go_loopg [4] N (fun gk iv wr=>∃(i:Nat) (G:Nat->Nat->Bool),iv=.int .i64 i/\i<=N/\gR wr w.heap.size (.slice (some ⟨g,0,none⟩) N cap) N G/\(∀p q,p<N->q<N->(G p q=true↔p<i/\p=q))/\Below w.heap.size w wr/\gk=N-i)
 case atStart=>exact⟨0,_,rfl,qd _,HO1.o,fun p q _ _=>by simp,HB1.o,rfl⟩
 case round=>
  obtain⟨i,G,rfl,hi,ho,hg,hbl,rfl⟩:=hrel;have HO:=qa ho;have HW:=qa hbl;have HGS:=qa hg;clear hbl hg;by_cases hlt:i<N
  ·obtain⟨bp,cp,hcr,hdp,hgw,hbp,hq⟩:=ho.at hlt
   obtain⟨hcq,hfq,hst⟩:=hq i hlt;have HST:=qa (hst true);have hbw:=hdp.hblk h0;have q6M:=fun(W:World) (i:Nat) (hi:i<N)=>aZ (P:=prog) 118 4 underlying118 (by kernel_rfl) hdp W .i64 i (by omega) (by omega);simp only[qC,qH]at q6M;clear ho hst hq hdp;go_wp2
   go_roundg (N-(i+1))
   case measure=>omega
   case rel=>
    refine⟨i+1,upd G i i true,by go_num,by omega,HST.o.1,fun p q hp hq=>?_,HW.o.grown HST.o.2 HW.o.size (fun k hk=>by cases hk;exact hbp),rfl⟩;unfold upd;split
    ·rename_i h;obtain⟨rfl,rfl⟩:=h;simp
    rename_i h;rw[HGS.o p q hp hq]
    constructor
    ·rintro⟨h1,h2⟩;exact⟨by omega,h2⟩
    rintro⟨h1,h2⟩;exact⟨by omega,h2⟩
  have hie:i=N:=by omega
  subst hie;go_wp2;go_ret;exact⟨_,rfl,⟨G,HO.o.read,fun p q hp hq=>(HGS.o p q hp hq).trans ⟨fun h=>h.2,fun h=>⟨hp,h⟩⟩⟩,HW.o⟩
end Go.Cm
namespace Go.Cm
open Go.RowKit Go.Proofs Go.Maps
theorem F7(w:World):(zeroValue 3).run prog w=.ok (.int .i64 0) w:=by kernel_rfl
theorem X4{v v' x:Value}{vs:List Value}{q n:Nat}(h:f8.free v vs (some q))(hx:x.ownBlock≠some q)(hk:∀k,v'.ownBlock=some k->v.ownBlock=some k\/n<=k)(hn:q<n):f8.free v' (vs++[x]) (some q):=by
 refine⟨fun k hk1 e=>?_,fun i hi k hk1 e=>?_⟩
 ·injection e with e
  subst e;rcases hk _ hk1 with h1|h1
  ·exact h.1 _ h1 rfl
  omega
 injection e with e;subst e;rw[qj,qD]at hi;rcases Nat.lt_succ_iff_lt_or_eq.1 hi with h1|rfl
 ·rw[aV h1]at hk1
  exact h.2 i h1 _ hk1 rfl
 rw[bV]at hk1;exact hx hk1
def M0(q m:Nat)(lv:Value)(k:Nat):Prop:=k=q\/k=m\/lv.ownBlock=some k
end Go.Cm
namespace Go.Cm
open Go.RowKit Go.Proofs Go.WideShapes Go.ChangeShapes Go.Deep
instance :Inhabited Nd:=⟨⟨0,0,0,0,0,0,0,0⟩⟩
section
variable {H : Type} {enc : TypeId × Value → H} {w : World} {base : Nat} {held : Bool}
theorem q15{fuel:Nat}{cs:List Value}{y:DataW H×List MemPlace}(h:DataW.trod enc prog w base (fun _=>true) held fuel 54 cs=some y)(hl:cs.length=4):
  ∃a b c d:Int,cs=[.int .u64 a,.int .u64 b,.int .u64 c,.int .u64 d]/\WQ a/\WQ b/\WQ c/\WQ d:=by
 obtain⟨ys,m,-,-,-,hyl,hyy⟩:=DataW.trod_array underlying54 h;have cu:prog.cellsOf 52=1:=by kernel_rfl
 have hcell:∀i,i<4->∃z:Int,cs[i]? =some (.int .u64 z)/\WQ z:=fun i hi=>by
  have h3:=hyy i hi;rw[cu,Nat.mul_one]at h3;have hy:ys[i]? =some (ys[i]'(by omega)):=qx (by omega);rw[hy]at h3;obtain⟨k,e1,-,hwf⟩:=DataW.trod_int underlying52 h3;refine⟨k,?_,?_⟩
  ·have e2:((cs.drop i).take 1)[0]? =some (.int .u64 k):=qZ (fun l=>l[0]?) e1
   simpa using e2
  simp[Lit.wf,IntKind.min,IntKind.max,IntKind.signed,IntKind.bits]at hwf;unfold WQ;omega
 obtain⟨a,ha,ha0⟩:=hcell 0 (by omega);obtain⟨b,hb,hb0⟩:=hcell 1 (by omega);obtain⟨c,hc,hc0⟩:=hcell 2 (by omega);obtain⟨d,hd,hd0⟩:=hcell 3 (by omega);refine⟨a,b,c,d,?_,ha0,hb0,hc0,hd0⟩;obtain⟨q0,q1,q2,q3,rfl⟩:=q4M hl;simp at ha hb hc hd;rw[ha,hb,hc,hd]
theorem X6{fuel:Nat}{cs:List Value}{y:DataW H×List MemPlace}(h:DataW.trod enc prog w base (fun _=>true) held fuel 77 cs=some y)(hl:cs.length=8):
  ∃x:Nd,cs=ndC x/\NdQ x:=by
 obtain⟨xs,n,-,-,-,hxl,hg⟩:=DataW.trod_struct underlying77 h
 match xs,hxl with
 |[x0,x1,x2,x3,x4],_=>
  have h0:=hg 0 _ rfl;have h1:=hg 1 _ rfl;have h2:=hg 2 _ rfl;have h3:=hg 3 _ rfl;have h4:=hg 4 _ rfl;have cs4:prog.cellsOf 54=4:=by kernel_rfl
  have c3:prog.cellsOf 3=1:=by kernel_rfl
  simp only[List.getElem?_cons_zero,List.getElem?_cons_succ]at h0 h1 h2 h3 h4;change DataW.trod enc prog w base (fun _=>true) held n 3 ((cs.drop 0).take (prog.cellsOf 3))=some x0 at h0;change DataW.trod enc prog w base (fun _=>true) held n 3 ((cs.drop 1).take (prog.cellsOf 3))=some x1 at h1;change DataW.trod enc prog w base (fun _=>true) held n 54 ((cs.drop 2).take (prog.cellsOf 54))=some x2 at h2;change DataW.trod enc prog w base (fun _=>true) held n 3 ((cs.drop 6).take (prog.cellsOf 3))=some x3 at h3;change DataW.trod enc prog w base (fun _=>true) held n 3 ((cs.drop 7).take (prog.cellsOf 3))=some x4 at h4;obtain⟨k0,e0,-,-⟩:=DataW.trod_int underlying3 h0;obtain⟨k1,e1,-,-⟩:=DataW.trod_int underlying3 h1;obtain⟨k3,e3,-,-⟩:=DataW.trod_int underlying3 h3;obtain⟨k4,e4,-,-⟩:=DataW.trod_int underlying3 h4;obtain⟨a,b,c,d,e2,ha,hb,hc,hd⟩:=q15 h2 (by rw[cs4];simp;omega);rw[c3]at e0 e1 e3 e4;rw[cs4]at e2;obtain⟨q0,q1,q2,q3,q4,q5,q6,q7,rfl⟩:=q4N hl;simp at e0 e1 e2 e3 e4;obtain⟨rfl,rfl,rfl,rfl⟩:=e2;subst e0 e1 e3 e4;exact⟨⟨k0,k1,a,b,c,d,k3,k4⟩,rfl,ha,hb,hc,hd⟩
theorem K9{fuel:Nat}{cs:List Value}{x:DataW H×List MemPlace}(h:DataW.trod enc prog w base (fun _=>true) held fuel 39 cs=some x)(hw:∀n∈x.1.weights prog 39,n<=reachBytes):∃v l,cs=[v]/\aO w v l/\∀z∈l,NdQ z:=by
 have c8:prog.cellsOf 77=8:=by kernel_rfl
 have b8:prog.bytesOf 77=64:=by kernel_rfl
 obtain⟨oa,len,cap,b,off,C,D,rfl,hd,hx⟩:=q14 8 (by decide) underlying39 c8 (by rw[b8];decide) h hw
 have hN:∀i,i<len->∃z:Nd,C i=ndC z/\NdQ z:=fun i hi=>by
  obtain⟨hl,-,⟨n,p,h2⟩,-⟩:=hx i hi;exact X6 h2 hl
 obtain⟨Z,hZ⟩:=choose_lt hN;refine⟨_,(List.range len).map Z,rfl,⟨oa,cap,b,off,by simp,by simpa using hd,fun i hi c hcl=>?_⟩,fun z hz=>?_⟩
 ·have hi':i<len:=by simpa using hi
  rw[(hx i hi').2.1 c hcl,(hZ i hi').1];simp[List.getD,hi']
 obtain⟨i,hi,rfl⟩:=List.mem_map.1 hz;exact(hZ i (List.mem_range.1 hi)).2
theorem zO{fuel:Nat}{cs:List Value}{x:DataW H×List MemPlace}(h:DataW.trod enc prog w base (fun _=>true) held fuel 22 cs=some x)(hw:∀n∈x.1.weights prog 22,n<=reachBytes):∃v ll,cs=[v]/\dO w v ll/\mD ll:=by
 have c1:prog.cellsOf 39=1:=by kernel_rfl
 have b1:prog.bytesOf 39=24:=by kernel_rfl
 obtain⟨oa,len,cap,b,off,V,D,rfl,hd,hx⟩:=q2C underlying22 c1 (by rw[b1];decide) h hw
 have hV:∀i,i<len->∃l:List Nd,aO w (V i) l/\∀z∈l,NdQ z:=fun i hi=>by
  obtain⟨-,⟨n,p,h2⟩,h3⟩:=hx i hi;obtain⟨v,l,e1,h4,h5⟩:=K9 h2 h3;simp only[List.cons.injEq,and_true]at e1;exact⟨l,e1▸h4,h5⟩
 obtain⟨Z,hZ⟩:=choose_lt hV;refine⟨_,(List.range len).map Z,rfl,⟨(List.range len).map V,⟨oa,cap,b,off,by simp,by simpa using hd,fun i hi=>?_⟩,by simp,fun i hi=>?_⟩,fun l hl z hz=>?_⟩
 ·have hi':i<len:=by simpa using hi
  rw[(hx i hi').1];simp[List.getD,hi']
 ·have hi':i<len:=by simpa using hi
  have:=(hZ i hi').1;simpa[List.getD,hi']using this
 obtain⟨i,hi,rfl⟩:=List.mem_map.1 hl;exact(hZ i (List.mem_range.1 hi)).2 z hz
theorem L0{v:Value}{x:DataW H}{p:List MemPlace}{r:Reach}{b0:Nat}(hv:Value.okWide prog w r b0 22 v)(h:DataW.Trod enc prog w base (fun _=>true) held 22 v x p)(hw:∀n∈x.weights prog 22,n<=reachBytes):∃ll,dO w v ll/\mD ll:=by
 obtain⟨a0,len0,cap0,rfl⟩:=okWide_slice underlying22 hv;obtain⟨fuel,hf⟩:=h;obtain⟨v',ll,hcs,h1,h2⟩:=zO hf hw
 have qbw:Value.slice a0 len0 cap0=v':=by
  have:[Value.slice a0 len0 cap0]=[v']:=hcs;injection this
 rw[qbw];exact⟨ll,h1,h2⟩
end
end Go.Cm
namespace Go.Cm
open Go.RowKit Go.Proofs
theorem q1k{x:Nat}(hx:x<2^256)(Z:Array Value)(hZ:Z=z4)(W:World):(binOp .eql 54 (dU x) (.agg Z)).run prog W=.ok (.bool (decide (x=0))) W:=by
 have:=zY W (wdR x 0:Nat) (wdR x 1:Nat) (wdR x 2:Nat) (wdR x 3:Nat) 0 0 0 0;rw[hZ];refine Eq.trans this ?_
 congr 2
 refine decide_eq_decide.2 ⟨fun h=>?_,fun h=>by subst h;simp[U7]⟩;refine q3D hx (by decide) fun i hi=>?_;rw[U7];obtain rfl|rfl|rfl|rfl:i=0\/i=1\/i=2\/i=3:=by omega
 all_goals omega
theorem Z3(W:World)(o:BinOp)(x y:Operand)(a:Nat)(Z:Array Value):(eqGuard o 54 x y (dU a) (.agg Z)).run prog W=.ok () W:=kC W o x y _ _
abbrev aR(w:World)(B:Nat)(v:Value)(l:List Nd):Prop:=d4 8 w B 77 v (l.map ndC)
def sV(w:World)(l:List Nd)(e:Ending)(w':World):Prop:=∃v,e=.returned v/\aR w' w.heap.size v l/\Below w.heap.size w w'
theorem aR.at{w:World}{B:Nat}{v:Value}{l:List Nd}(h:aR w B v l):aO w v l:=h.sl
theorem q2N(l:List Nd):∀x∈l.map ndC,x.length=8:=by
 intro x hx;obtain⟨y,-,rfl⟩:=List.mem_map.1 hx
 rfl
theorem q2O(l:List Nd):∀u∈(l.map ndC).flatten,u.oneCell'=true:=by
 intro u hu;obtain⟨c,hc,hu⟩:=List.mem_flatten.1 hu;obtain⟨y,-,rfl⟩:=List.mem_map.1 hc;simp only[ndC,jK,List.not_mem_nil,or_false]at hu;rcases hu with rfl|rfl|rfl|rfl|rfl|rfl|rfl|rfl<;>rfl
theorem pQ.setN{w:World}{b:Nat}{x:Nd}(h:pQ w b x)(n:Int):pQ (w.setCell ⟨b,1,none⟩ (.int .i64 n)) b {x with n:=n}/\w.grownBy (w.setCell ⟨b,1,none⟩ (.int .i64 n)) (some b):=by
 obtain⟨h1,h2⟩:=h.own.store 1 (.int .i64 n);exact⟨⟨h1⟩,h2⟩
theorem pQ.heap{w:World}{b:Nat}{x:Nd}(h:pQ w b x):w.heap[b]? =some (.cells (ndA x) 77 (0,0)):=by
 obtain⟨A,hg,-,hA⟩:=h.own.whole;rw[hg,show ndA x=(ndC x).toArray from rfl,<-hA]
theorem Z7{ops:Array Oper}{rest:List Oper}{o:Oper}{a:Act}{w:World}{Q:Exit->Act->World->Prop}(hgd:o.guard=none)(y:Operand)(ho:o.op=.load 77 y)
  (b:Nat) (hx:a.eval y=.pointer (some ⟨b,0,none⟩)) (x:Nd) (hown:pQ w b x)
  (h:wpList prog ops Q rest (a.put o.dst (.agg (ndA x))) w):wpList prog ops Q (o::rest) a w:=
 mR hgd 77 8 y ho b hx (ndA x) rfl hown.heap _ underlying77 rfl (by kernel_rfl) h
theorem L5{ops:Array Oper}{rest:List Oper}{o:Oper}{a:Act}{w:World}{Q:Exit->Act->World->Prop}(hgd:o.guard=none)(y:Operand)(ho:o.op=.load 77 y)
  (b:Nat) (hx:a.eval y=.pointer (some ⟨b,0,none⟩)) (k n a1 b1 c1 d1 lo hi:Int) (hown:pQ w b ⟨k,n,a1,b1,c1,d1,lo,hi⟩)
  (h:wpList prog ops Q rest (a.put o.dst (.agg #[.int .i64 k,.int .i64 n,.int .u64 a1,.int .u64 b1,.int .u64 c1,.int .u64 d1,.int .i64 lo,.int .i64 hi])) w):wpList prog ops Q (o::rest) a w:=
 Z7 hgd y ho b hx _ hown h
theorem pQ.free{w:World}{b:Nat}{x:Nd}(h:pQ w b x)(c:Nat):w.frozen? ⟨b,c,none⟩=false:=h.own.free c
theorem pQ.c1{w:World}{b:Nat}{x:Nd}(h:pQ w b x):w.cell? ⟨b,1,none⟩=some (.int .i64 x.n):=h.own.cell (by simp[ndC])
theorem pQ.lt{w:World}{b:Nat}{x:Nd}(h:pQ w b x):b<w.heap.size:=(h.own.lt b rfl).2
theorem Z8{ops:Array Oper}{rest:List Oper}{o:Oper}{a:Act}{w:World}{Q:Exit->Act->World->Prop}(hgd:o.guard=none)(x:Operand)(ho:o.op=.load 54 x)
  (g:Nat) (hx:a.eval x=.pointer (some ⟨g,0,none⟩)) (s:Nat) (hown:fP w g s)
  (h:wpList prog ops Q rest (a.put o.dst (.agg #[.int .u64 (wdR s 0:Nat),.int .u64 (wdR s 1:Nat),.int .u64 (wdR s 2:Nat),.int .u64 (wdR s 3:Nat)])) w):wpList prog ops Q (o::rest) a w:=
 aU hgd x ho g hx s hown h
theorem sV.up{w w1:World}{l:List Nd}{e:Ending}{w':World}(h:sV w1 l e w')(hb:Below w.heap.size w w1):sV w l e w':=by
 obtain⟨v,he,ho,hb2⟩:=h;exact⟨v,he,ho.mono hb.size,hb.trans (hb2.mono hb.size)⟩
end Go.Cm
namespace Go.Cm
open Go.RowKit Go.Proofs
theorem aR.keepG{w w':World}{B g:Nat}{v:Value}{l:List Nd}(h:aR w B v l)(hg:w.grownBy w' (some g))(hB:g<B):aR w' B v l:=
 d4.keep h hg (by
  cases hv:v.ownBlock with
  |none=>exact .inl rfl
  |some q=>right;intro e;have:=(h.lt q hv).1;have:=qp e;omega)
end Go.Cm
namespace Go.Cm
open Go.RowKit Go.Proofs
theorem aR.slice{w:World}{B:Nat}{v:Value}{l:List Nd}(h:aR w B v l):∃oa cap,v=.slice oa l.length cap:=by
 obtain⟨oa,cap,b,off,hv,-,-⟩:=d4.sl h;exact⟨oa,cap,by rw[hv,qA]⟩
theorem pQ.c0{w:World}{b:Nat}{x:Nd}(h:pQ w b x):w.cell? ⟨b,0,none⟩=some (.int .i64 x.kd):=h.own.cell (by simp[ndC])
theorem Z9{w:World}{B E:Nat}{v:Value}{xs:List Value}(h:Own w B E v xs):∀q,v.ownBlock=some q->∃cur,w.heap[q]? =some (.cells cur E (0,0)):=by
 exact ZmH5
theorem L6{k:Nat}{w:World}{B E:Nat}{v:Value}{l:List (List Value)}(h:d4 k w B E v l):∀q,v.ownBlock=some q->∃cur,w.heap[q]? =some (.cells cur E (0,0)):=by
 exact ZmH5
theorem y9{k:Nat}{w:World}{B B' E E':Nat}{v v':Value}{xs:List Value}{l:List (List Value)}(h:Own w B E v xs)(h':d4 k w B' E' v' l)(hne:E≠E'):v'.ownBlock=none\/v'.ownBlock≠v.ownBlock:=by
 cases hq:v'.ownBlock with
 |none=>exact .inl rfl
 |some q=>
  right
  intro e;obtain⟨c1,h1⟩:=L6 h' q hq;obtain⟨c2,h2⟩:=Z9 h q e.symm;rw[h1]at h2;injection h2 with h2;injection h2 with _ h2;exact hne h2.symm
theorem q4a{w:World}{B E g:Nat}{v:Value}{xs:List Value}(hg:g<B)(h:Own w B E v xs):v.ownBlock=none\/v.ownBlock≠some g:=by
 cases hv:v.ownBlock with
 |none=>exact .inl rfl
 |some q=>right;intro e;have h1:=(h.lt q hv).1;have h2:=qp e;omega
def eV(w:World)(B:Nat)(vs:List Value)(ls:List (List Nd)):Prop:=vs.length=ls.length/\∀i,i<ls.length->aR w B (vs.getD i undef) (ls.getD i [])
theorem eV.nil(w:World)(B:Nat):eV w B [] []:=⟨rfl,fun i hi=>absurd hi (qB i)⟩
theorem eV.all{w w':World}{B:Nat}{vs:List Value}{ls:List (List Nd)}(h:eV w B vs ls)(hk:∀v l,aR w B v l->aR w' B v l):eV w' B vs ls:=⟨h.1,fun i hi=>hk _ _ (h.2 i hi)⟩
theorem eV.snoc{w:World}{B:Nat}{vs:List Value}{ls:List (List Nd)}{v:Value}{l:List Nd}(h:eV w B vs ls)(hv:aR w B v l):eV w B (vs++[v]) (ls++[l]):=by
 refine⟨by simp[h.1],fun i hi=>?_⟩;rw[qj,qD]at hi;by_cases hlt:i<ls.length
 ·have h1:=h.2 i hlt
  have e1:(vs++[v]).getD i undef=vs.getD i undef:=by simp[List.getD,List.getElem?_append,show i<vs.length by rw[h.1];exact hlt]
  have e2:(ls++[l]).getD i []=ls.getD i []:=by simp[List.getD,List.getElem?_append,hlt]
  rw[e1,e2];exact h1
 obtain rfl:i=ls.length:=by omega
 have e1:(vs++[v]).getD ls.length undef=v:=by simp[List.getD,<-h.1]
 have e2:(ls++[l]).getD ls.length []=l:=by simp[List.getD]
 rw[e1,e2];exact hv
theorem eV.nodes{w w':World}{B:Nat}{vs:List Value}{ls:List (List Nd)}(h:eV w B vs ls)(hb:Below w.heap.size w w'):∀i,i<ls.length->aO w' (vs.getD i undef) (ls.getD i []):=fun i hi=>(aR.at (h.2 i hi)).up hb
end Go.Cm
namespace Go.Cm
open Go.RowKit Go.Proofs
theorem Own.of_blk{w w':World}{B E:Nat}{v:Value}{xs:List Value}(h:Own w B E v xs)(hb:∀k,v.ownBlock=some k->w'.heap[k]? =w.heap[k]?):Own w' B E v xs:=by
 refine⟨⟨h.1.1,h.1.2.imp id ?_⟩,h.2⟩;rintro⟨g,cap,cur,rfl,h2,h3,h4⟩;exact⟨g,cap,cur,rfl,h2,by rw[hb g rfl];exact h3,h4⟩
structure Fx(S:Nat->Prop)(w w':World):Prop where
 os:w'.os=w.os
 tape:w'.tape=w.tape
 output:w'.output=w.output
 size:w.heap.size<=w'.heap.size
 block:∀k,k<w.heap.size->¬S k->w'.heap[k]? =w.heap[k]?
section
variable {S : Nat → Prop} {n : Nat} {w w1 w2 : World}
theorem Fx.refl(S:Nat->Prop)(w:World):Fx S w w:=⟨rfl,rfl,rfl,qb _,fun _ _ _=>rfl⟩
theorem Fx.trans(h:Fx S w w1)(k:Fx S w1 w2):Fx S w w2:=⟨k.os.trans h.os,k.tape.trans h.tape,k.output.trans h.output,qc h.size k.size,fun i hi h1=>by rw[k.block i (qe hi h.size) h1,h.block i hi h1]⟩
theorem Fx.mono{S':Nat->Prop}(h:Fx S w w1)(hS:∀k,S k->S' k):Fx S' w w1:=⟨h.os,h.tape,h.output,h.size,fun k hk h1=>h.block k hk (fun e=>h1 (hS k e))⟩
theorem Fx.grown{row:Option Nat}(h:Fx S w w1)(hg:w1.grownBy w2 row)(hr:∀k,row=some k->S k\/w.heap.size<=k):Fx S w w2:=
 ⟨hg.os.trans h.os,hg.tape.trans h.tape,hg.output.trans h.output,qc h.size hg.size,fun k hk h1=>by
  rw[hg.block k (qe hk h.size) (fun e=>(hr k e.symm).elim h1 (fun z=>by omega)),h.block k hk h1]⟩
theorem Fx.below(h:Fx S w1 w2)(hb:Below n w w1)(hn:n<=w1.heap.size)(hS:∀k,S k->n<=k):Below n w w2:=hb.trans ⟨h.os,h.tape,h.output,h.size,fun k hk=>h.block k (by omega) (fun e=>by have:=hS k e;omega)⟩
theorem Fx.own{B E:Nat}{v:Value}{xs:List Value}(h:Fx S w w1)(ho:Own w B E v xs)(hv:∀k,v.ownBlock=some k->¬S k):Own w1 B E v xs:=
 ho.of_blk fun k hk=>h.block k (ho.lt k hk).2 (hv k hk)
theorem Fx.cell{b o:Nat}(h:Fx S w w1)(hb:b<w.heap.size)(hv:¬S b):w1.cell? ⟨b,o,none⟩=w.cell? ⟨b,o,none⟩:=World.cell?_of_block (w:=w) (h.block b hb hv)
end
end Go.Cm
namespace Go.Cm
open Go.RowKit Go.Proofs
theorem Fx.far{S S':Nat->Prop}{w w1 w2:World}(h:Fx S w w1)(hg:Fx S' w1 w2)(hr:∀k,S' k->S k\/w.heap.size<=k):Fx S w w2:=
 ⟨hg.os.trans h.os,hg.tape.trans h.tape,hg.output.trans h.output,qc h.size hg.size,fun k hk h1=>by
  rw[hg.block k (qe hk h.size) (fun e=>(hr k e).elim h1 (fun z=>by omega)),h.block k hk h1]⟩
theorem q00{P:Program}(t E:TypeId)(ht:P.underlying t=some (.slice E))(hE:(P.info? E).map (·.size)=some 1):P.underlying t=some (.slice (P.elem t))/\∀W:World,(sizeOf (P.elem t)).run P W=.ok 1 W:=by
 have he:P.elem t=E:=by simp[Program.elem,ht]
 refine⟨by rw[he];exact ht,fun W=>?_⟩;rw[he];cases hq:P.info? E with
 |none=>simp[hq]at hE
 |some inf=>
  have:inf.size=1:=by simpa[hq]using hE
  simp[sizeOf,typeInfo,hq,this]
theorem Sl.low{P:Program}{w:World}{v:Value}{l:List Value}(h:Sl w v l)(t E:TypeId)(ht:P.underlying t=some (.slice E))(hE:(P.info? E).map (·.size)=some 1)(n:Nat)(hn:n<=l.length):
  ∃u,(∀W:World,(Instr.sliceAt t v none (some (.int .i64 (n:Int))) none).run P W=.ok u W)/\Sl w u (l.take n):=by
 obtain⟨oa,cap,b,off,rfl,hd,hc⟩:=h;obtain⟨h1,h2⟩:=q00 t E ht hE;have hcap:=hd.hcap;have hl:(l.take n).length=n:=by rw[qW];omega
 refine⟨sliced oa 0 n cap 1,fun W=>?_,?_⟩
 ·rw[run_sliceAt_slice (P:=P) (t:=t) (h:=h1),run_slice_h (t:=t) (ht:=h1) (h0:=by omega) (h2:=by omega),h2]
  simp[Result.andThen]
 refine⟨if cap=0 then oa else oa.map (·.add (0*1)),cap,b,off,by rw[hl];simp[sliced],⟨fun h0=>?_,by omega,hd.hmax,by have:=hd.hsml;omega,fun h0=>hd.hblk (by omega)⟩,fun i hi=>?_⟩
 ·rw[hl]at h0
  rw[qu (by omega),hd.hat (by omega)];simp[gH]
 rw[hl]at hi;rw[hc i (by omega)];simp[List.getD,hi]
theorem Sl.high{P:Program}{w:World}{v:Value}{l:List Value}(h:Sl w v l)(t E:TypeId)(ht:P.underlying t=some (.slice E))(hE:(P.info? E).map (·.size)=some 1)(n:Nat)(hn:n<=l.length):
  ∃u,(∀W:World,(Instr.sliceAt t v (some (.int .i64 (n:Int))) none none).run P W=.ok u W)/\Sl w u (l.drop n):=by
 obtain⟨oa,cap,b,off,rfl,hd,hc⟩:=h;obtain⟨h1,h2⟩:=q00 t E ht hE;have hcap:=hd.hcap;have hl:(l.drop n).length=l.length-n:=by rw[j3]
 refine⟨sliced oa n l.length cap 1,fun W=>?_,?_⟩
 ·rw[run_sliceAt_slice (P:=P) (t:=t) (h:=h1),run_slice_l (t:=t) (ht:=h1) (h0:=by omega) (h1:=by omega),h2]
  simp[Result.andThen]
 refine⟨if cap=n then oa else oa.map (·.add (n*1)),cap-n,b,off+n,by rw[hl];simp[sliced],⟨fun h0=>?_,by omega,by have:=hd.hmax;omega,by have:=hd.hsml;omega,fun h0=>hd.hblk (by omega)⟩,fun i hi=>?_⟩
 ·rw[hl]at h0
  rw[qu (by omega),hd.hat (by omega)];simp[gH]
 rw[hl]at hi;rw[jJ,hc (n+i) (by omega)];simp[List.getD]
def bv(l:List Bool):List Value:=l.map Value.bool
theorem q4e(l:dG):bys ⟨l.toArray⟩=l:=rfl
theorem orQ{x y:Nat}(hx:x<2^256)(hy:y<2^256)(w:World):Calls prog 94 #[dU x,dU y] w (eG (x|||y) w):=by
 have hz:=nQ;obtain⟨Z,hZ⟩:∃Z,Z=z4:=⟨_,rfl⟩;rw[<-hZ]at hz;obtain⟨X,hX⟩:∃X,X=(wsV x).toArray:=⟨_,rfl⟩;obtain⟨Y,hY⟩:∃Y,Y=(wsV y).toArray:=⟨_,rfl⟩;have hb0:fP (w.alloc (.cells X 54)) w.heap.size x:=by rw[hX];exact m4 w x
 have hb1:fP ((w.alloc (.cells X 54)).alloc (.cells Y 54)) (w.heap.size+1) y:=by
  have:=m4 (w.alloc (.cells X 54)) y;rwa [<-hY,show(w.alloc (.cells X 54)).heap.size=w.heap.size+1 by simp]at this
 have hb2:fP (((w.alloc (.cells X 54)).alloc (.cells Y 54)).alloc (.cells Z 54)) (w.heap.size+2) 0:=by
  have:=fH ((w.alloc (.cells X 54)).alloc (.cells Y 54)) Z hZ;rwa [show((w.alloc (.cells X 54)).alloc (.cells Y 54)).heap.size=w.heap.size+2 by simp]at this
 have H0:=qa ((hb0.up (aB _ (.cells Y 54))).up (aB _ (.cells Z 54)));have H1:=qa (hb1.up (aB _ (.cells Z 54)));have H2:=qa hb2;have HBL:Hid (Below w.heap.size w (((w.alloc (.cells X 54)).alloc (.cells Y 54)).alloc (.cells Z 54))):=qa aS;have HBX:Hid (∀W,Calls prog 92 #[dU x] W fun e w'=>e=.returned (.string ⟨(mF x 256).toArray⟩)/\∃y,w'=ext W y):=qa (fun W=>W7 x W);have HBY:Hid (∀W,Calls prog 92 #[dU y] W fun e w'=>e=.returned (.string ⟨(mF y 256).toArray⟩)/\∃y,w'=ext W y):=qa (fun W=>W7 y W)
 have HOF:Hid (∀W,Calls prog 87 #[.string ⟨(mF x 256++mF y 256).toArray⟩] W (eG (x|||y) W)):=qa (fun W=>by
  have h1:=nR x 256;have h2:=nR y 256;have:=ofQ ⟨(mF x 256++mF y 256).toArray⟩ (by show(mF x 256++mF y 256).toArray.size<=_;simp only[jB,qj];omega) W;rwa [q4e,V2,V3 hx,V3 hy]at this)
 have HCT:Hid ((mF x 256).length+(mF y 256).length<=9223372036854775807):=qa (by
  have h1:=nR x 256;have h2:=nR y 256;omega)
 have qby:=fun W=>Y1 (P:=prog) (mF x 256) (mF y 256) HCT.o W;have HS:Hid (dU x=.agg X/\dU y=.agg Y):=qa (by rw[hX,hY];exact⟨rfl,rfl⟩);rw[HS.o.1,HS.o.2];clear hb0 hb1 hb2 hX hY hZ hx hy;generalize mF x 256=bx at*;generalize mF y 256=bz at*;go_enter func94,ntmps94;go_wp2;generalize ((w.alloc (.cells X 54)).alloc (.cells Y 54)).alloc (.cells Z 54)=w1 at*;refine aH [0,2] [1,3,4,5] [6] (by kernel_rfl) (by kernel_rfl) ?_;simp only[pk];go_simp
 repeat(first
  |(go_big_quiet_want;refine bR _ rfl w.heap.size rfl x (fun w' hw=>by obtain⟨y,rfl⟩:=hw;exact H0.o.up (aE ⟨_,rfl⟩)) ?_;go_simp;go_big_quiet_on)
  |(go_big_quiet_want;refine bR _ rfl (w.heap.size+1) rfl y (fun w' hw=>by obtain⟨y,rfl⟩:=hw;exact H1.o.up (aE ⟨_,rfl⟩)) ?_;go_simp;go_big_quiet_on))
 refine wpQuiet_nil ?_;have hbd:=aW w1 1;rw[show w1.drewN 1=w1.drew from rfl]at hbd;have HD:=qa hbd;have H2d:=qa (H2.o.up hbd);have HBd:=qa (HBL.o.trans (hbd.mono HBL.o.size));clear hbd;unfold aD
 go_wp2_with((with_reducible refine(HBX.o _).mono ?_);rintro e w3 ⟨rfl,hx⟩;have hb:=aE hx;have H23:=qa (H2d.o.up hb);have HB3:=qa (HBd.o.trans (hb.mono HBd.o.size));have HD3:=qa (HD.o.trans (hb.mono HD.o.size));clear hx hb)
 refine⟨aF HD3.o,?_⟩;unfold aD
 go_wp2_with((with_reducible refine(HBY.o _).mono ?_);rintro e w4 ⟨rfl,hx⟩;have hb:=aE hx;have H24:=qa (H23.o.up hb);have HB4:=qa (HB3.o.trans (hb.mono HB3.o.size));have HD4:=qa (HD3.o.trans (hb.mono HD3.o.size));clear hx hb)
 refine⟨aF HD4.o,?_⟩;unfold aD;go_wp2;refine⟨aF HD4.o,?_⟩;unfold aD
 go_wp2_with((with_reducible refine(HOF.o _).mono ?_);rintro e w5 ⟨rfl,hx⟩;have hb:=aE hx;have H25:=qa (H24.o.up hb);have HB5:=qa (HB4.o.trans (hb.mono HB4.o.size));have HD5:=qa (HD4.o.trans (hb.mono HD4.o.size));clear hx hb)
 refine⟨aF HD5.o,?_⟩;unfold aD;unfold aD
 go_wp2_with(refine aL rfl _ _ rfl (w.heap.size+2) rfl 0 _ rfl H25.o ?_;intro w6 hB2 hg2;have H26:=qa hB2;have HB6:=qa (HB5.o.grown hg2 HB5.o.size (fun q e=>by cases e;omega));clear hB2 hg2)
 refine⟨trivial,?_⟩;unfold aD;go_wp2;refine cL (s:=4) (ad:=⟨w.heap.size+2,0,none⟩) (x:=dU (x|||y)) rfl rfl rfl H26.o.load ?_;exact⟨rfl,aF HB6.o⟩
theorem sW(l:dG)(k:Nat)(c:UInt8)(h:k<l.length)(hc:c∉l.take k)(hd:l.getD k 0≠c):c∉l.take (k+1):=by
 rw[cK l k 0 h];intro h;rcases List.mem_append.1 h with h|h
 ·exact hc h
 exact hd (List.mem_singleton.1 h).symm
theorem q2S(c:UInt8)(w:World):Calls prog 97 #[.int .u8 (c.toNat:Nat)] w fun e w'=>e=.returned (.bool (decide (c∈xL)))/\∃x,w'=ext w x:=by
 obtain⟨s,hs⟩:∃s:ByteArray,s=⟨#[92,91,93,40,41,123,125,42,43,63,124,46,45,94,47,34]⟩:=⟨_,rfl⟩;have hsz:s.size=16:=by rw[hs];rfl
 have hby:bys s=xL:=by rw[hs];rfl
 have hix:=fun(i:Nat) (h:i<s.size) (W:World)=>eY (P:=prog) 9 underlying9 h W;rw[hby,hsz]at hix;have HIX:=qa hix;have HT:Hid (∀k,k<16->xL.getD k 0≠c->c∉xL.take k->c∉xL.take (k+1)):=qa (fun k hk h1 h2=>sW xL k c hk h2 h1)
 have HM:Hid (∀k,k<16->xL.getD k 0∈xL):=qa (fun k hk=>by
  rw[qt,qx (show k<xL.length from hk)];exact jk _)
 have HL:Hid (xL.take 16=xL):=qa rfl;obtain⟨r,hr⟩:∃r,r=decide (c∈xL):=⟨_,rfl⟩;have HR:=qa hr;rw[<-hr];have HSS:=qa hs;clear hix hby hr hs;generalize xL=l at*;go_enter func97,ntmps97;go_wp2;rw[<-HSS.o];clear HSS
 go_loop [4] (fun i=>∃k:Nat,k<=16/\i=.int .i64 k/\c∉l.take k) (fun i=>17-(intOf i).toNat)
 case atStart=>exact⟨0,qd _,rfl,by simp⟩
 case round=>
  obtain⟨k,hk,rfl,hn⟩:=hrel;have HN:=qa hn;clear hn;by_cases hlt:k<16
  ·exact ZmH3
  obtain rfl:k=16:=by omega
  exact ZmH8
theorem q1l(c:UInt8)(w:World):Calls prog 89 #[.int .u8 (c.toNat:Nat)] w fun e w'=>e=.returned (.bool (decide (c∈yG)))/\∃x,w'=ext w x:=by
 obtain⟨s,hs⟩:∃s:ByteArray,s=⟨#[92,91,93,40,41,123,125,42,43,63,124,46]⟩:=⟨_,rfl⟩;have hsz:s.size=12:=by rw[hs];rfl
 have hby:bys s=yG:=by rw[hs];rfl
 have hix:=fun(i:Nat) (h:i<s.size) (W:World)=>eY (P:=prog) 9 underlying9 h W;rw[hby,hsz]at hix;have HIX:=qa hix;have HT:Hid (∀k,k<12->yG.getD k 0≠c->c∉yG.take k->c∉yG.take (k+1)):=qa (fun k hk h1 h2=>sW yG k c hk h2 h1)
 have HM:Hid (∀k,k<12->yG.getD k 0∈yG):=qa (fun k hk=>by
  rw[qt,qx (show k<yG.length from hk)];exact jk _)
 have HL:Hid (yG.take 12=yG):=qa rfl;obtain⟨r,hr⟩:∃r,r=decide (c∈yG):=⟨_,rfl⟩;have HR:=qa hr;rw[<-hr];have HSS:=qa hs;clear hix hby hr hs;generalize yG=l at*;go_enter func89,ntmps89;go_wp2;rw[<-HSS.o];clear HSS
 go_loop [4] (fun i=>∃k:Nat,k<=12/\i=.int .i64 k/\c∉l.take k) (fun i=>13-(intOf i).toNat)
 case atStart=>exact⟨0,qd _,rfl,by simp⟩
 case round=>
  obtain⟨k,hk,rfl,hn⟩:=hrel;have HN:=qa hn;clear hn;by_cases hlt:k<12
  ·exact ZmH3
  obtain rfl:k=12:=by omega
  exact ZmH8
theorem q5E(c:UInt8)(w:World):Calls prog 96 #[.int .u8 (c.toNat:Nat)] w fun e w'=>e=.returned (.int .i64 (dgR c))/\∃x,w'=ext w x:=by
 have hc:=c.toNat_lt;have HD:Hid (dgR c=if 48<=c.toNat/\c.toNat<=57 then(c.toNat:Int)-48 else if 97<=c.toNat/\c.toNat<=102 then(c.toNat:Int)-97+10 else -1):=qa (by unfold dgR;rfl);generalize dgR c=D at*;generalize c.toNat=n at*;by_cases h1:48<=n/\n<=57
 ·obtain⟨a1,a2⟩:=h1
  have HE:Hid (D=(n:Int)-48):=qa (by rw[HD.o,qv ⟨a1,a2⟩]);clear HD;go_enter func96,ntmps96;go_wp2;go_ret;refine⟨?_,(aF aS)⟩;rw[HE.o];rfl
 by_cases h2:97<=n/\n<=102
 ·obtain⟨a1,a2⟩:=h2
  have HE:Hid (D=(n:Int)-97+10):=qa (by rw[HD.o,qu h1,qv ⟨a1,a2⟩]);have a3:¬n<=57:=by omega
  have a4:48<=n:=by omega
  clear HD h1;go_enter func96,ntmps96;go_wp2;go_ret;refine⟨?_,(aF aS)⟩;rw[HE.o];rfl
 have HE:Hid (D= -1):=qa (by rw[HD.o,qu h1,qu h2]);have HE2:Hid (Ending.returned (Value.int .i64 (-1))=Ending.returned (.int .i64 D)):=qa (by rw[HE.o]);clear HD HE;by_cases a1:48<=n
 ·have a2:¬n<=57:=fun h=>h1 ⟨a1,h⟩
  clear h1;by_cases a3:97<=n
  ·have a4:¬n<=102:=fun h=>h2 ⟨a3,h⟩
   exact ZmH7
  exact ZmH7
 have a3:¬97<=n:=by omega
 clear h1 h2;go_enter func96,ntmps96;go_wp2;go_ret;exact⟨HE2.o,(aF aS)⟩
end Go.Cm
namespace Go.Cm
open Go.RowKit Go.Proofs
structure cN(w:World)(g:Nat)(s:ByteArray)(z:PS):Prop where
 own:Own w g 81 (.slice (some ⟨g,0,none⟩) 4 4) [.string s,.int .i64 z.p,.int .i64 z.e,.int .i64 z.b]
section
variable {w : World} {g : Nat} {s : ByteArray} {z : PS}
theorem cN.up{w':World}(h:cN w g s z)(hb:Below w.heap.size w w'):cN w' g s z:=⟨h.own.up hb⟩
theorem cN.lt(h:cN w g s z):g<w.heap.size:=(h.own.lt g rfl).2
theorem cN.c0(h:cN w g s z):w.cell? ⟨g,0,none⟩=some (.string s):=h.own.cell (by simp)
theorem cN.c1(h:cN w g s z):w.cell? ⟨g,1,none⟩=some (.int .i64 z.p):=h.own.cell (by simp)
theorem cN.c2(h:cN w g s z):w.cell? ⟨g,2,none⟩=some (.int .i64 z.e):=h.own.cell (by simp)
theorem cN.c3(h:cN w g s z):w.cell? ⟨g,3,none⟩=some (.int .i64 z.b):=h.own.cell (by simp)
theorem cN.free(h:cN w g s z)(c:Nat):w.frozen? ⟨g,c,none⟩=false:=h.own.free c
theorem cN.set1(h:cN w g s z)(r:Nat):cN (w.setCell ⟨g,1,none⟩ (.int .i64 r)) g s ⟨r,z.e,z.b⟩/\w.grownBy (w.setCell ⟨g,1,none⟩ (.int .i64 r)) (some g):=⟨⟨(h.own.store 1 _).1⟩,(h.own.store 1 _).2⟩
end
theorem cN.set23{w:World}{g:Nat}{s:ByteArray}{z:PS}(h:cN w g s z)(e b:Nat):cN ((w.setCell ⟨g,2,none⟩ (.int .i64 e)).setCell ⟨g,3,none⟩ (.int .i64 b)) g s ⟨z.p,e,b⟩/\w.grownBy ((w.setCell ⟨g,2,none⟩ (.int .i64 e)).setCell ⟨g,3,none⟩ (.int .i64 b)) (some g):=by
 have h1:=h.own.store 2 (.int .i64 e);have h2:=h1.1.store 3 (.int .i64 b);exact⟨⟨h2.1⟩,aK h1.2 h2.2⟩
theorem vY{w:World}{g:Nat}{s:ByteArray}{z:PS}(h:cN w g s z)(e a:Nat):
  Calls prog 30 #[.pointer (some ⟨g,0,none⟩),.int .i64 e,.int .i64 a] w fun en w'=>en=.returned (.tuple #[])/\cN w' g s (b9 e a z)/\w.grownBy w' (some g):=by
 have HB:=qa h;have c2:=h.c2;have c3:=h.c3;have hg:=h.lt;have f2:=h.free 2;have f3:=h.free 3;have HS:=qa (h.set23 e a);clear h;by_cases he:z.e=0
 ·have he':((z.e:Int)==0)=true:=by simp[he]
  have HF:Hid (b9 e a z=⟨z.p,e,a⟩):=qa (by unfold b9;rw[qv he]);go_enter func30,ntmps30;go_wp2
  go_end0
  rw[HF.o];exact⟨rfl,HS.o.1,HS.o.2⟩
 have he':((z.e:Int)==0)=false:=by
  have:z.e≠0:=he;simpa using this
 have HF:Hid (b9 e a z=z):=qa (by unfold b9;rw[qu he]);go_enter func30,ntmps30;go_wp2
 go_end0
 rw[HF.o];exact⟨rfl,HB.o,fS _ _⟩
theorem cN.keep{w w':World}{g:Nat}{s:ByteArray}{z:PS}{row:Option Nat}(h:cN w g s z)(hg:w.grownBy w' row)(hne:row≠some g):cN w' g s z:=⟨h.own.keep hg (.inr (fun e=>hne e.symm))⟩
theorem cN.inc{w:World}{g:Nat}{s:ByteArray}{z:PS}(h:cN w g s z):cN (w.setCell ⟨g,1,none⟩ (.int .i64 ((z.p:Int)+1))) g s (bA z)/\w.grownBy (w.setCell ⟨g,1,none⟩ (.int .i64 ((z.p:Int)+1))) (some g):=h.set1 (z.p+1)
theorem cN.inc2{w:World}{g:Nat}{s:ByteArray}{z:PS}(h:cN w g s (bA z)):cN (w.setCell ⟨g,1,none⟩ (.int .i64 ((z.p:Int)+1+1))) g s (bA (bA z))/\w.grownBy (w.setCell ⟨g,1,none⟩ (.int .i64 ((z.p:Int)+1+1))) (some g):=h.set1 (z.p+1+1)
theorem cN.c11{w:World}{g:Nat}{s:ByteArray}{z:PS}(h:cN w g s (bA z)):w.cell? ⟨g,1,none⟩=some (.int .i64 ((z.p:Int)+1)):=h.c1
def m8(v:Value)(g:Nat)(s:ByteArray)(z:PS)(w:World)(e:Ending)(w':World):Prop:=e=.returned v/\cN w' g s z/\w.grownBy w' (some g)
def gE(s:dG)(c:UInt8)(z:PS):Bool:=decide (nxR s z=some c)
theorem isQ{w:World}{g:Nat}{s:ByteArray}{z:PS}(h:cN w g s z)(c:UInt8):
  Calls prog 68 #[.pointer (some ⟨g,0,none⟩),.int .u8 (c.toNat:Nat)] w fun e w'=>e=.returned (.bool (gE (bys s) c z))/\∃x,w'=ext w x:=by
 have c0:=h.c0;have c1:=h.c1;have c2:=h.c2;have hg:=h.lt;have HX:=qa (@eY prog 9 (by kernel_rfl) s z.p);obtain⟨R,hR⟩:∃R,R=gE (bys s) c z:=⟨_,rfl⟩;rw[<-hR];unfold gE nxR at hR;rw[bH]at hR;clear h;by_cases he:z.e=0
 ·have he':((z.e:Int)==0)=true:=by simp[he]
  by_cases hp:z.p<s.size
  ·have hix:=fun W=>HX.o hp W
   have hp':(z.p:Int)<(s.size:Int):=by omega
   rw[qv ⟨he,hp⟩]at hR;generalize (bys s).getD z.p 0=d at*;clear HX he;by_cases hd:d=c
   ·have HR:Hid (R=true):=qa (by rw[hR,hd];simp)
    have hdn:((d.toNat:Int)==(c.toNat:Int))=true:=by rw[hd];simp
    clear hR hd;go_enter func68,ntmps68;go_wp2
    go_quiet (fail)
    go_wp2;go_ret;exact⟨by rw[HR.o];rfl,(aF aS)⟩
   have HR:Hid (R=false):=qa (by rw[hR];simpa using hd);have hdn:=kO hd;clear hR hd;go_enter func68,ntmps68;go_wp2
   go_quiet (fail)
   go_wp2;go_ret;exact⟨by rw[HR.o];rfl,(aF aS)⟩
  have hp':¬(z.p:Int)<(s.size:Int):=by omega
  have HR:Hid (R=false):=qa (by rw[hR,qu (fun h=>hp h.2)];simp);clear hR HX;go_enter func68,ntmps68;go_wp2
  go_quiet (fail)
  go_wp2;go_ret;exact⟨by rw[HR.o];rfl,(aF aS)⟩
 have he':((z.e:Int)==0)=false:=by
  have:z.e≠0:=he;simpa using this
 have HR:Hid (R=false):=qa (by rw[hR,qu (fun h=>he h.1)];simp);clear HX hR;go_enter func68,ntmps68;go_wp2
 go_quiet (fail)
 go_wp2;go_ret;exact⟨by rw[HR.o];rfl,(aF aS)⟩
theorem fL(s:dG)(c:UInt8)(z:PS):b7 s c z=if gE s c z then(true,bA z)else(false,z):=by
 unfold b7 gE;by_cases h:nxR s z=some c
 ·rw[qv h,qv (by simpa using h)]
 rw[qu h,qu (by simpa using h)]
theorem iG{s:dG}{c:UInt8}{z:PS}(h:gE s c z=true):z.e=0/\z.p<s.length/\nxR s z=some c:=by
 have h1:nxR s z=some c:=by simpa[gE]using h
 exact⟨(f7 h1).1,(f7 h1).2.1,h1⟩
theorem oX{w:World}{g:Nat}{s:ByteArray}{z:PS}(h:cN w g s z)(hs:s.size<=1000000)(c:UInt8):
  Calls prog 46 #[.pointer (some ⟨g,0,none⟩),.int .u8 (c.toNat:Nat)] w (m8 (.bool (b7 (bys s) c z).1) g s (b7 (bys s) c z).2 w):=by
 have HB:=qa h;have HN:=qa (isQ h c);have hg:=h.lt;rw[fL];clear h;cases hn:gE (bys s) c z with
 |false=>
  rw[hn]at HN;clear hn;go_enter func46,ntmps46
  go_wp2_with((with_reducible refine(HN.o).mono ?_);rintro e w1 ⟨rfl,hx⟩;(have HB1:=qa (HB.o.up (aE hx)));(have HG1:=qa (aI (aE hx) (some g)));clear hx)
  go_ret;exact⟨rfl,HB1.o,HG1.o⟩
 |true=>
  obtain⟨-,hzp,-⟩:=iG hn;rw[bH]at hzp;rw[hn]at HN;clear hn;go_enter func46,ntmps46
  go_wp2_with((with_reducible refine(HN.o).mono ?_);rintro e w1 ⟨rfl,hx⟩;(have HB1:=qa (HB.o.up (aE hx)));(have HG1:=qa (aI (aE hx) (some g)));(have c1:=HB1.o.c1);(have f1:=HB1.o.free 1);(have HS:=qa (HB1.o.inc));clear hx)
  go_ret;exact⟨rfl,HS.o.1,aK HG1.o HS.o.2⟩
structure Qs(w0 w:World)(g:Nat)(s:ByteArray)(z:PS):Prop where
 box:cN w g s z
 gr:w0.grownBy w (some g)
 gl:g<w0.heap.size
section
variable {w0 w w' : World} {g : Nat} {s : ByteArray} {z : PS}
theorem Qs.start(h:cN w g s z):Qs w w g s z:=⟨h,fS _ _,h.lt⟩
theorem Qs.below(h:Qs w0 w g s z)(hb:Below w.heap.size w w'):Qs w0 w' g s z:=⟨h.box.up hb,aK h.gr (aI hb _),h.gl⟩
theorem Qs.ext(h:Qs w0 w g s z)(hx:∃y,w'=ext w y):Qs w0 w' g s z:=h.below (aE hx)
theorem Qs.act{z':PS}(h:Qs w0 w g s z)(hB:cN w' g s z')(hg:w.grownBy w' (some g)):Qs w0 w' g s z':=⟨hB,aK h.gr hg,h.gl⟩
theorem Qs.far{row:Option Nat}(h:Qs w0 w g s z)(hg:w.grownBy w' row)(hq:∀q,row=some q->w0.heap.size<=q):Qs w0 w' g s z:=
 ⟨h.box.keep hg (fun e=>by have:=hq g e;have:=h.gl;omega),iS h.gr hg hq,h.gl⟩
theorem Qs.dr(h:Qs w0 w g s z)(n:Nat):Qs w0 (w.drewN n) g s z:=h.below (aW w n)
theorem Qs.inc(h:Qs w0 w g s z):Qs w0 (w.setCell ⟨g,1,none⟩ (.int .i64 ((z.p:Int)+1))) g s (bA z):=h.act h.box.inc.1 h.box.inc.2
theorem Qs.inc2(h:Qs w0 w g s (bA z)):Qs w0 (w.setCell ⟨g,1,none⟩ (.int .i64 ((z.p:Int)+1+1))) g s (bA (bA z)):=h.act h.box.inc2.1 h.box.inc2.2
theorem Qs.ret(h:Qs w0 w g s z){v:Value}{e:Ending}(he:e=.returned v):m8 v g s z w0 e w:=⟨he,h.box,h.gr⟩
end
end Go.Cm
namespace Go.Cm
open Go.RowKit Go.Proofs
theorem q01(s:ByteArray)(z:PS)(he:z.e=0)(n:Nat)(hn:n=((bys s).getD z.p 0).toNat):(¬z.p<s.size/\okD ((nxR (bys s) z).getD 0) 10=false)\/(z.p<s.size/\n<48/\okD ((nxR (bys s) z).getD 0) 10=false)\/
  (z.p<s.size/\48<=n/\57<n/\okD ((nxR (bys s) z).getD 0) 10=false)\/(z.p<s.size/\48<=n/\n<=57/\okD ((nxR (bys s) z).getD 0) 10=true/\(dgR ((nxR (bys s) z).getD 0)).toNat=n-48):=by
 have hx:nxR (bys s) z=if z.p<s.size then some ((bys s).getD z.p 0)else none:=by unfold nxR;rw[bH];simp only[he,true_and]
 by_cases hp:z.p<s.size
 ·rw[qv hp]at hx
  rw[hx];simp only[qM];generalize (bys s).getD z.p 0=c at*;by_cases h1:n<48
  ·refine .inr (.inl ⟨hp,h1,?_⟩)
   unfold okD dgR;rw[qu (by omega),qu (by omega)];simp
  by_cases h2:n<=57
  ·refine .inr (.inr (.inr ⟨hp,by omega,h2,?_,?_⟩))
   ·unfold okD dgR
    rw[qv (by omega)];simp;omega
   unfold dgR;rw[qv (by omega)];omega
  refine .inr (.inr (.inl ⟨hp,by omega,by omega,?_⟩));unfold okD dgR;rw[qu (by omega)];split
  ·simp;omega
  simp
 rw[qu hp]at hx;rw[hx];exact .inl ⟨hp,E0 10⟩
theorem q5k{w:World}{g:Nat}{s:ByteArray}{z:PS}(h:cN w g s z)(hs:s.size<=1000000)(he:z.e=0):
  Calls prog 90 #[.pointer (some ⟨g,0,none⟩)] w (m8 (.int .i64 ((mA (bys s) z).1:Nat)) g s (mA (bys s) z).2 w):=by
 have hg:=h.lt;obtain⟨n,hn⟩:∃n,n=((bys s).getD z.p 0).toNat:=⟨_,rfl⟩;obtain⟨m,hm⟩:∃m,m=((bys s).getD (z.p+1) 0).toNat:=⟨_,rfl⟩;have hw1:=q01 s z he n hn;have hw2:=q01 s (bA z) he m hm;rw[show(bA z).p=z.p+1 from rfl]at hw2;have HI1:Hid (z.p<s.size->∀W,(Instr.index 9 (.string s) (.int .i64 (z.p:Int))).run prog W=.ok (.int .u8 (n:Nat)) W):=qa (fun hp W=>by rw[hn];exact eY (P:=prog) 9 (by kernel_rfl) hp W);have HI2:Hid (z.p+1<s.size->∀W,(Instr.index 9 (.string s) (.int .i64 ((z.p:Int)+1))).run prog W=.ok (.int .u8 (m:Nat)) W):=qa (fun hp W=>by rw[hm];exact eY (P:=prog) 9 (by kernel_rfl) hp W);obtain⟨R,hR⟩:∃R,R=mA (bys s) z:=⟨_,rfl⟩;rw[<-hR];unfold mA at hR;simp only at hR;have HF:Hid (∀W,cN W g s z->Calls prog 30 #[.pointer (some ⟨g,0,none⟩),.int .i64 15,.int .i64 z.p] W (m8 (.tuple #[]) g s (b9 15 z.p z) W)):=qa (fun W h=>vY h 15 z.p);have c0:=h.c0;have c1:=h.c1;have f1:=h.free 1;clear hn hm;have HQ:=qa (Qs.start h);clear h;have HV:Hid (48<=n->((n-48:Nat):Int)=(n:Int)-48):=qa (fun h=>by omega);have HV2:Hid (48<=n->48<=m->((10*(n-48)+(m-48):Nat):Int)=10*((n:Int)-48)+((m:Int)-48)):=qa (fun h h2=>by omega);rcases hw1 with⟨hp,hk⟩|⟨hp,h1,hk⟩|⟨hp,h1,h2,hk⟩|⟨hp,h1,h2,hk,hd⟩;rotate_left 3
 ·have hix:=HI1.o hp
  have hpi:(z.p:Int)<(s.size:Int):=by omega
  have i1:(n:Int)≥48:=by omega
  have i2:(n:Int)<=57:=by omega
  rcases hw2 with⟨hp2,hk2⟩|⟨hp2,h12,hk2⟩|⟨hp2,h12,h22,hk2⟩|⟨hp2,h12,h22,hk2,hd2⟩;rotate_left 3
  ·have q8X:=HI2.o hp2
   have hp3:(z.p:Int)+1<(s.size:Int):=by omega
   have k1:(m:Int)≥48:=by omega
   have k2:(m:Int)<=57:=by omega
   have HR:Hid (R=(10*(n-48)+(m-48),bA (bA z))):=qa (by rw[hR,hk,hk2,<-hd,<-hd2];rfl);clear hR hk hk2 hd hd2;go_enter func90,ntmps90;go_wp2;refine wp_loop_rounds 3 ?_
   iterate 2
    rw[rounds_succ];go_wp2
    go_quiet (fail)
    go_wp2
    go_quiet (fail)
    go_wp2
   rw[rounds_succ];go_wp2
   go_quiet (fail)
   go_wp2;go_ret;rw[HR.o];refine Qs.ret ?_ ?_
   ·repeat(first|exact HQ.o|refine Qs.dr ?_ _|refine Qs.inc2 ?_|refine Qs.inc ?_)
   rw[HV2.o h1 h12];rfl
  all_goals
   have HR:Hid (R=(n-48,bA z)):=qa (by rw[hR,hk,hk2,<-hd];rfl);clear hR hk hk2 hd
   first
    |have hp3:decide ((z.p:Int)+1<(s.size:Int))=false:=qw (by omega)
    |(have q8X:=HI2.o hp2;have hp3:(z.p:Int)+1<(s.size:Int):=(by omega);first|(have k1:decide ((48:Int)<=(m:Int))=false:=qw (by omega))|(have k1:(m:Int)≥48:=(by omega);have k2:decide ((m:Int)<=57)=false:=qw (by omega)))
   go_enter func90,ntmps90;go_wp2;refine wp_loop_rounds 3 ?_;rw[rounds_succ];go_wp2
   go_quiet (fail)
   go_wp2
   go_quiet (fail)
   go_wp2;rw[rounds_succ];go_wp2
   go_quiet (fail)
   go_wp2;go_ret;rw[HR.o];refine Qs.ret ?_ ?_
   ·repeat(first|exact HQ.o|refine Qs.dr ?_ _|refine Qs.inc ?_)
   rw[HV.o h1];rfl
 all_goals
  have HR:Hid (R=(0,b9 15 z.p z)):=qa (by rw[hR,hk];rfl);clear hR hk hw2
  first
   |have hp3:¬(z.p:Int)<(s.size:Int):=by omega
   |(have hix:=HI1.o hp;have hp3:(z.p:Int)<(s.size:Int):=(by omega);first|(have k1:decide ((48:Int)<=(n:Int))=false:=qw (by omega))|(have k1:(n:Int)≥48:=(by omega);have k2:decide ((n:Int)<=57)=false:=qw (by omega)))
  go_enter func90,ntmps90;go_wp2;refine wp_loop_rounds 3 ?_;rw[rounds_succ];go_wp2
  go_quiet (fail)
  go_wp2_with((with_reducible refine(HF.o _ (HQ.o.dr _).box).mono ?_);rintro e w1 ⟨rfl,hB,hg⟩;have H1:=qa ((HQ.o.dr _).act hB hg);clear hB hg)
  go_ret;rw[HR.o];exact H1.o.ret rfl
theorem q02{s:dG}{z:PS}{c:UInt8}(hc:c≠0):gE s c z=decide ((nxR s z).getD 0=c):=by
 unfold gE;cases h:nxR s z with
 |none=>simp[hc.symm]
 |some d=>simp
theorem q5F{w:World}{g:Nat}{s:ByteArray}{z:PS}{c:UInt8}(h:cN w g s z)(hs:s.size<=1000000)(hc:nxR (bys s) z=some c):
  Calls prog 82 #[.pointer (some ⟨g,0,none⟩)] w (m8 (.tuple #[.int .i64 (pO (bys s) z).1.lo,.int .i64 (pO (bys s) z).1.hi]) g s (pO (bys s) z).2 w):=by
 obtain⟨hz0,hzp,-⟩:=f7 hc;rw[bH]at hzp;have c1:=h.c1;have f1:=h.free 1;have hgl:=h.lt;have HS:=qa (Qs.start h).inc;have HN1:Hid (∀W,cN W g s (bA z)->Calls prog 90 #[.pointer (some ⟨g,0,none⟩)] W (m8 (.int .i64 ((mA (bys s) (bA z)).1:Nat)) g s (mA (bys s) (bA z)).2 W)):=qa (fun W h=>q5k h hs hz0);obtain⟨R,hR⟩:∃R,R=pO (bys s) z:=⟨_,rfl⟩;rw[<-hR];unfold pO pN at hR;simp only at hR;generalize mA (bys s) (bA z)=N1 at*;obtain⟨n,z1⟩:=N1;have HT1:Hid (∀W,cN W g s z1->Calls prog 46 #[.pointer (some ⟨g,0,none⟩),.int .u8 44] W (m8 (.bool (b7 (bys s) 44 z1).1) g s (b7 (bys s) 44 z1).2 W)):=qa (fun W h=>oX h hs 44);have htt:=fun h=>iG (s:=bys s) (c:=44) (z:=z1) h;have htk:=fL (bys s) 44 z1;simp only at hR HN1;generalize b7 (bys s) 44 z1=T1 at*;obtain⟨bt,zt⟩:=T1
 have hze:bt=true->zt.e=0:=by
  intro hb;cases hi:gE (bys s) 44 z1 with
  |false=>rw[hi]at htk;have:=qZ Prod.fst htk;rw[hb]at this;cases this
  |true=>rw[hi]at htk;have:=qZ Prod.snd htk;rw[show zt=bA z1 from this];exact(htt hi).1
 have HX1:Hid (∀W,cN W g s zt->Calls prog 68 #[.pointer (some ⟨g,0,none⟩),.int .u8 125] W fun e w'=>e=.returned (.bool (decide ((nxR (bys s) zt).getD 0=125)))/\∃x,w'=ext W x):=qa (fun W h=>by rw[<-q02 (by decide)];exact isQ h 125);have HN2:Hid (∀W,bt=true->cN W g s zt->Calls prog 90 #[.pointer (some ⟨g,0,none⟩)] W (m8 (.int .i64 ((mA (bys s) zt).1:Nat)) g s (mA (bys s) zt).2 W)):=qa (fun W hb h=>q5k h hs (hze hb));simp only at hR HT1;generalize hch:(nxR (bys s) zt).getD 0=ch at*;generalize mA (bys s) zt=N2 at*;obtain⟨m,zm⟩:=N2;simp only at hR HN2;clear hz0 hc h htt htk hze hch
 obtain⟨hi,zh,q9L,hRw⟩:∃(hi:Int) (zh:PS),((bt=false/\hi=n/\zh=zt)\/(bt=true/\ch=125/\hi= -1/\zh=zt)\/(bt=true/\ch≠125/\hi=m/\zh=zm))/\
   R=(⟨8,0,0,0,0,0,n,hi⟩,if q2o n hi then(if(b7 (bys s) 125 zh).1 then(b7 (bys s) 125 zh).2 else b9 15 (b7 (bys s) 125 zh).2.p (b7 (bys s) 125 zh).2)else b9 18 z.p (if(b7 (bys s) 125 zh).1 then(b7 (bys s) 125 zh).2 else b9 15 (b7 (bys s) 125 zh).2.p (b7 (bys s) 125 zh).2)):=by
  cases bt
  ·exact⟨n,zt,.inl ⟨rfl,rfl,rfl⟩,hR⟩
  by_cases hch:ch=125
  ·rw[qv rfl,qv hch]at hR
   exact⟨-1,zt,.inr (.inl ⟨rfl,hch,rfl,rfl⟩),hR⟩
  rw[qv rfl,qu hch]at hR;exact⟨m,zm,.inr (.inr ⟨rfl,hch,rfl,rfl⟩),hR⟩
 clear hR;have HT2:Hid (∀W,cN W g s zh->Calls prog 46 #[.pointer (some ⟨g,0,none⟩),.int .u8 125] W (m8 (.bool (b7 (bys s) 125 zh).1) g s (b7 (bys s) 125 zh).2 W)):=qa (fun W h=>oX h hs 125);generalize b7 (bys s) 125 zh=T2 at*;obtain⟨b2,z4⟩:=T2;simp only at hRw HT2;have HF1:Hid (∀W,cN W g s z4->Calls prog 30 #[.pointer (some ⟨g,0,none⟩),.int .i64 15,.int .i64 z4.p] W (m8 (.tuple #[]) g s (b9 15 z4.p z4) W)):=qa (fun W h=>vY h 15 z4.p);have HF2:Hid (∀W y,cN W g s y->Calls prog 30 #[.pointer (some ⟨g,0,none⟩),.int .i64 18,.int .i64 z.p] W (m8 (.tuple #[]) g s (b9 18 z.p y) W)):=qa (fun W y h=>vY h 18 z.p);obtain⟨z5,hz5⟩:∃z5,z5=if b2 then z4 else b9 15 z4.p z4:=⟨_,rfl⟩
 rw[<-hz5]at hRw;have HR:=qa hRw;have HZ5:=qa hz5;have q9a:=qa q9L;clear hRw hz5 q9L;go_enter func82,ntmps82
 go_upto_if 23 with(first
  |((with_reducible refine(HN1.o _ HS.o.box).mono ?_);rintro e w1 ⟨rfl,hB,hg⟩;have H1:=qa (HS.o.act hB hg);clear hB hg)
  |((with_reducible refine(HT1.o _ H1.o.box).mono ?_);rintro e w2 ⟨rfl,hB,hg⟩;have H2:=qa (H1.o.act hB hg);clear hB hg))
 go_cut [6] (fun x wx=>x=.int .i64 hi/\Qs w wx g s zh)
 case first=>
  rcases q9a.o with⟨rfl,rfl,rfl⟩|⟨rfl,hch,rfl,rfl⟩|⟨rfl,hch,rfl,rfl⟩
  ·go_wp2
   go_meet
   case rel=>exact⟨rfl,H2.o⟩
  ·rw[qy hch]at HX1
   go_wp2_with((with_reducible refine(HX1.o _ H2.o.box).mono ?_);rintro e w3 ⟨rfl,hx⟩;have H3:=qa (H2.o.ext hx);clear hx)
   go_meet
   case rel=>exact⟨rfl,H3.o⟩
  rw[qw hch]at HX1
  go_wp2_with(first
   |((with_reducible refine(HX1.o _ H2.o.box).mono ?_);rintro e w3 ⟨rfl,hx⟩;have H3:=qa (H2.o.ext hx);clear hx)
   |((with_reducible refine(HN2.o _ (by trivial) H3.o.box).mono ?_);rintro e w4 ⟨rfl,hB,hg⟩;have H4:=qa (H3.o.act hB hg);clear hB hg))
  go_meet
  case rel=>exact⟨rfl,H4.o⟩
 case rest=>
  obtain⟨rfl,hQ⟩:=hcut;have H5:=qa hQ;clear hQ HX1 HN2
  go_upto_if 31 with((with_reducible refine(HT2.o _ H5.o.box).mono ?_);rintro e w6 ⟨rfl,hB,hg⟩;have H6:=qa (H5.o.act hB hg);clear hB hg)
  go_cut [] (fun wx=>Qs w wx g s z5)
  case first=>
   cases b2 with
   |true=>
    go_wp2
    go_meet
    case rel=>rw[HZ5.o];exact H6.o
   |false=>
    have c6:=H6.o.box.c1
    go_wp2_with((with_reducible refine(HF1.o _ H6.o.box).mono ?_);rintro e w7 ⟨rfl,hB,hg⟩;have H7:=qa (H6.o.act hB hg);clear hB hg)
    go_meet
    case rel=>rw[HZ5.o];exact H7.o
  case rest=>
   have H8:=qa hcut;clear hcut;have HFR:Hid (q2o n hi=true->R=(⟨8,0,0,0,0,0,n,hi⟩,z5)):=qa (fun h=>by rw[HR.o,qv h]);have HFB:Hid (q2o n hi=false->R=(⟨8,0,0,0,0,0,n,hi⟩,b9 18 z.p z5)):=qa (fun h=>by rw[HR.o,qu (by rw[h];decide)]);have HCN:Hid (q2o n hi=(decide ((n:Int)<=30)&&(decide (hi= -1)||(decide ((n:Int)<=hi)&&decide (hi<=30))))):=qa (by unfold q2o;rw[qy (show(0:Int)<=(n:Int) by omega)];rfl);have HHI:Hid (-1<=hi):=qa (by rcases q9a.o with⟨-,h,-⟩|⟨-,-,h,-⟩|⟨-,-,h,-⟩<;>omega);clear HR q9a;generalize q2o n hi=cb at*;have hh:=HHI.o;by_cases hcb:cb=true
   ·have HRR:=qa (HFR.o hcb)
    have hc:=HCN.o;rw[hcb]at hc;replace hc:=hc.symm;simp only[qJ,Bool.or_eq_true,jm]at hc;obtain⟨a1,a2⟩:=hc;have b1:decide ((30:Int)<(n:Int))=false:=qw (by omega);have b1':¬30<n:=by omega
    have b2:decide ((30:Int)<hi)=false:=qw (by omega);by_cases a3:hi= -1
    ·have b3:decide ((0:Int)<=hi)=false:=qw (by omega)
     clear HCN HHI HFR HFB hh a1 a2 a3 hcb;go_wp2
     go_ret2
     rw[HRR.o];exact H8.o.ret rfl
    have b3:decide ((0:Int)<=hi)=true:=qy (by omega);have b4:decide (hi<(n:Int))=false:=qw (by omega);clear HCN HHI HFR HFB hh a1 a2 a3 hcb;go_wp2
    go_ret2
    rw[HRR.o];exact H8.o.ret rfl
   have hcf:cb=false:=by simpa using hcb
   have HRR:=qa (HFB.o hcf);have hc:=HCN.o;rw[hcf]at hc;replace hc:=hc.symm;simp only[Bool.and_eq_false_iff,Bool.or_eq_false_iff,qr]at hc;by_cases a1:(30:Int)<(n:Int)
   ·have a1':30<n:=by omega
    clear HCN HHI HFR HFB hh hc hcb hcf
    exact ZmH2
   have b1:decide ((30:Int)<(n:Int))=false:=qw a1;have b1':¬30<n:=by omega
   by_cases a2:(30:Int)<hi
   ·clear HCN HHI HFR HFB hh hc hcb hcf a1
    exact ZmH2
   have b2:decide ((30:Int)<hi)=false:=qw a2;have b3:decide ((0:Int)<=hi)=true:=qy (by omega);have b4:decide (hi<(n:Int))=true:=qy (by omega);have b3':(0:Int)<=hi:=jb b3;have b4':hi<(n:Int):=jb b4;clear HCN HHI HFR HFB hh hc hcb hcf a1 a2
   exact ZmH2
theorem cN.keepP{w w':World}{g b:Nat}{s:ByteArray}{z:PS}(h:cN w g s z)(hg:w.grownBy w' (some b))(hne:b≠g):cN w' g s z:=h.keep hg (fun e=>hne (by injection e))
structure QEs(w0 w:World)(g:Nat)(s:ByteArray)(z:PS)(b x:Nat):Prop where
 box:cN w g s z
 set:fP w b x
 gr:w0.grownBy w (some g)
 lo:w0.heap.size<=b
 gl:g<w0.heap.size
section
variable {w0 w w' : World} {g : Nat} {s : ByteArray} {z : PS} {b x : Nat}
theorem QEs.ext(h:QEs w0 w g s z b x)(hx:∃y,w'=ext w y):QEs w0 w' g s z b x:=
 have hb:=aE hx
 ⟨h.box.up hb,h.set.up hb,aK h.gr (aI hb _),h.lo,h.gl⟩
theorem QEs.below(h:QEs w0 w g s z b x)(hb:Below w.heap.size w w'):QEs w0 w' g s z b x:=
 ⟨h.box.up hb,h.set.up hb,aK h.gr (aI hb _),h.lo,h.gl⟩
theorem QEs.act{z':PS}(h:QEs w0 w g s z b x)(hB:cN w' g s z')(hg:w.grownBy w' (some g)):QEs w0 w' g s z' b x:=
 ⟨hB,h.set.keepP hg (by have:=h.lo;have:=h.gl;omega),aK h.gr hg,h.lo,h.gl⟩
theorem QEs.store{y:Nat}(h:QEs w0 w g s z b x)(hB:fP w' b y)(hg:w.grownBy w' (some b)):QEs w0 w' g s z b y:=
 ⟨h.box.keepP hg (by have:=h.lo;have:=h.gl;omega),hB,iS h.gr hg (fun k e=>by injection e with e;have:=h.lo;omega),h.lo,h.gl⟩
theorem QEs.far{q:Nat}(h:QEs w0 w g s z b x)(hg:w.grownBy w' (some q))(hq:w0.heap.size<=q)(hqb:q≠b):QEs w0 w' g s z b x:=
 ⟨h.box.keepP hg (by have:=h.gl;omega),h.set.keepP hg hqb,iS h.gr hg (fun k e=>by injection e with e;omega),h.lo,h.gl⟩
theorem QEs.inc(h:QEs w0 w g s z b x):QEs w0 (w.setCell ⟨g,1,none⟩ (.int .i64 ((z.p:Int)+1))) g s (bA z) b x:=h.act h.box.inc.1 h.box.inc.2
theorem QEs.inc2(h:QEs w0 w g s (bA z) b x):QEs w0 (w.setCell ⟨g,1,none⟩ (.int .i64 ((z.p:Int)+1+1))) g s (bA (bA z)) b x:=h.act h.box.inc2.1 h.box.inc2.2
end
structure Al{α:Type}(n:Nat)(z:PS)(r:α×PS)(x:α)(z':PS):Prop where
 ok:r.2.e=0->z'=r.2/\x=r.1
 bad:r.2.e≠0->z'.e≠0
 le:z.p<=z'.p
 top:z'.p<=n
theorem Al.same{α:Type}{n:Nat}{z:PS}{r:α×PS}{x:α}{z':PS}(h:r=(x,z'))(h1:z.p<=z'.p)(h2:z'.p<=n):Al n z r x z':=by
 subst h;exact⟨fun _=>⟨rfl,rfl⟩,id,h1,h2⟩
theorem Al.fault{α:Type}{n:Nat}{z:PS}{r:α×PS}(x:α){z':PS}(h:r.2.e≠0)(h0:z'.e≠0)(h1:z.p<=z'.p)(h2:z'.p<=n):Al n z r x z':=
 ⟨fun e=>absurd e h,fun _=>h0,h1,h2⟩
def q4f(r:(Nat×Bool)×PS)(g:Nat)(s:ByteArray)(z:PS)(w:World)(e:Ending)(w':World):Prop:=
 ∃x b z',e=.returned (.tuple #[dU x,.bool b])/\x<2^256/\Qs w w' g s z'/\Al s.size z r (x,b) z'
theorem QEs.qs{w0 w:World}{g:Nat}{s:ByteArray}{z:PS}{b x:Nat}(h:QEs w0 w g s z b x):Qs w0 w g s z:=⟨h.box,h.gr,h.gl⟩
theorem G9(c:UInt8)(W:World):(convert 59 9 (.slice (some ⟨W.heap.size,0,none⟩) 1 1)).run prog (W.alloc (.cells #[.int .u8 (c.toNat:Nat)] 5))=.ok (.string ⟨#[c]⟩) (W.alloc (.cells #[.int .u8 (c.toNat:Nat)] 5)):=
 eX (P:=prog) _ 59 9 5 underlying59 underlying5 underlying9 _ [c] (fZ W #[.int .u8 (c.toNat:Nat)] 5 (by simp))
theorem q4t(c:UInt8)(W:World):Calls prog 87 #[.string ⟨#[c]⟩] W (eG (gG c) W):=by
 have:=ofQ ⟨#[c]⟩ (by show 1<=1000000;decide) W;rwa [show bys ⟨#[c]⟩=[c]from rfl,q2q]at this
theorem cN.hop{w:World}{g:Nat}{s:ByteArray}{z:PS}(h:cN w g s z)(r:Nat){v:Int}(hv:v=(r:Int)):cN (w.setCell ⟨g,1,none⟩ (.int .i64 v)) g s ⟨r,z.e,z.b⟩/\w.grownBy (w.setCell ⟨g,1,none⟩ (.int .i64 v)) (some g):=by
 subst hv;exact h.set1 r
theorem q2T(c:UInt8):dgR c<16:=by
 unfold dgR;split
 ·omega
 split<;>omega
theorem q5G(c:UInt8):okD c 16=decide (0<=dgR c):=by unfold okD;rw[qy (q2T c),Bool.and_true]
theorem q5l {w : World} {g : Nat} {s : ByteArray} {z : PS} {c0 : UInt8} (h : cN w g s z) (hs : s.size ≤ 1000000) (hc0 : nxR (bys s) z = some c0) :
    Calls prog 88 #[.pointer (some ⟨g, 0, none⟩)] w (q4f (tV (bys s) z) g s z w) := by
  obtain ⟨hz0, hzp, -⟩ := f7 hc0
  rw [bH] at hzp
  have hz := nQ
  obtain ⟨Z, hZ⟩ : ∃ Z, Z = z4 := ⟨_, rfl⟩
  rw [← hZ] at hz
  have HZV : Hid (Value.agg Z = dU 0) := qa (by rw [hZ]; rfl)
  have c1 := h.c1
  have c0 := h.c0
  have f1 := h.free 1
  have hgl := h.lt
  have HEA : Hid (QEs w (w.alloc (.cells Z 54)) g s z w.heap.size 0) := qa ⟨h.up (aB _ _), fH w Z hZ, aI (aB _ _) _, qb _, hgl⟩
  have HE0 : Hid (QEs w ((w.setCell ⟨g, 1, none⟩ (.int .i64 ((z.p : Int) + 1 + 1))).alloc (.cells Z 54)) g s (bA (bA z)) w.heap.size 0) := qa (by
    obtain ⟨hi1, hi2⟩ := h.hop (z.p + 1 + 1) (v := (z.p : Int) + 1 + 1) rfl
    have hb := aB (w.setCell ⟨g, 1, none⟩ (.int .i64 ((z.p : Int) + 1 + 1))) (.cells Z 54)
    have hn := fH (w.setCell ⟨g, 1, none⟩ (.int .i64 ((z.p : Int) + 1 + 1))) Z hZ
    rw [show (w.setCell ⟨g, 1, none⟩ (.int .i64 ((z.p : Int) + 1 + 1))).heap.size = w.heap.size by simp] at hn
    exact ⟨hi1.up hb, hn, aK hi2 (aI hb _), qb _, hgl⟩)
  have HF : Hid (∀ W y, cN W g s y → Calls prog 30 #[.pointer (some ⟨g, 0, none⟩), .int .i64 15, .int .i64 ((z.p : Int) + 1)] W (m8 (.tuple #[]) g s (b9 15 (z.p + 1) y) W)) := qa (fun W y h => vY h 15 (z.p + 1))
  obtain ⟨R, hR⟩ : ∃ R, R = tV (bys s) z := ⟨_, rfl⟩
  rw [← hR]
  have HX := qa (@eY prog 9 (by kernel_rfl) s (z.p + 1))
  have HL0 : Hid ((0 : Nat) < 2 ^ 256) := qa q4V
  clear h hZ hc0
  by_cases hp1 : z.p + 1 < s.size
  rotate_left 1
  · have hn : nxR (bys s) (bA z) = none := by unfold nxR; rw [qu (by rw [bH]; exact fun h => hp1 h.2)]
    have HR : Hid (R = ((0, false), b9 15 (z.p + 1) (bA z))) := qa (by rw [hR]; unfold tV; rw [hn])
    have HP : Hid (z.p ≤ (b9 15 (z.p + 1) z).p ∧ (b9 15 (z.p + 1) z).p ≤ s.size) := qa (by rw [dH]; omega)
    have hpd : decide ((s.size : Int) ≤ (z.p : Int) + 1) = true := qy (by omega)
    have hpi : (z.p : Int) + 1 ≥ (s.size : Int) := by omega
    clear hR hn HX
    go_enter func88, ntmps88
    go_wp2_with (first
      | ((with_reducible refine (HF.o _ _ HEA.o.box).mono ?_); rintro e w2 ⟨rfl, hB, hg⟩; have HE2 := qa (HEA.o.act hB hg); clear hB hg)
      | (refine aL rfl _ _ rfl w.heap.size rfl _ 0 HZV.o HE2.o.set ?_; intro w3 hB2 hg2; have HE3 := qa (HE2.o.store hB2 hg2); clear hB2 hg2))
    refine bB (s := 2) (b := 3) (ad := ⟨w.heap.size, 0, none⟩) (x := dU 0) (y := .bool false) rfl rfl rfl rfl HE3.o.set.load ?_
    exact ⟨0, false, _, rfl, HL0.o, HE3.o.qs, Al.fault _ (by rw [HR.o]; exact bN _ (by decide)) (bN _ (by decide)) HP.o.1 HP.o.2⟩
  · have hn : nxR (bys s) (bA z) = some ((bys s).getD (z.p + 1) 0) := by unfold nxR; rw [qv ⟨hz0, by rw [bH]; exact hp1⟩]; rfl
    have hix := HX.o hp1
    have hR2 : R = (match q3A ((bys s).getD (z.p + 1) 0) with
      | some a => ((a, true), bA (bA z))
      | none => match q3B ((bys s).getD (z.p + 1) 0) with
        | some b => ((gG b, false), bA (bA z))
        | none => if (bys s).getD (z.p + 1) 0 = 120 then match q1K (bys s) (z.p + 1) with
            | some b => ((gG b, false), ⟨z.p + 4, z.e, z.b⟩)
            | none => ((0, false), b9 15 (z.p + 1) (bA (bA z)))
          else ((0, false), b9 15 (z.p + 1) (bA (bA z)))) := by rw [hR]; unfold tV; rw [hn]; rfl
    have HOF := qa (fun c W => q4t c W)
    have HMA := qa (fun c W => q2S c W)
    have HP : Hid (z.p ≤ (bA (bA z)).p ∧ (bA (bA z)).p ≤ s.size) := qa ⟨by show z.p ≤ z.p + 1 + 1; omega, hp1⟩
    have HPF : Hid (z.p ≤ (b9 15 (z.p + 1) (bA (bA z))).p ∧ (b9 15 (z.p + 1) (bA (bA z))).p ≤ s.size ∧ (b9 15 (z.p + 1) (bA (bA z))).e ≠ 0) := qa (by rw [dH]; exact ⟨HP.o.1, HP.o.2, bN _ (by decide)⟩)
    have hpi : ¬ (z.p : Int) + 1 ≥ (s.size : Int) := by omega
    have hpd : decide ((s.size : Int) ≤ (z.p : Int) + 1) = false := qw (by omega)
    have hii : (((z.p + 1 : Nat)) : Int) = (z.p : Int) + 1 := rfl
    rw [hii] at hix
    clear hR hn HX HEA hii
    generalize (bys s).getD (z.p + 1) 0 = c at *
    go_enter func88, ntmps88
    go_upto_if 33 with (fail)
    generalize (w.setCell ⟨g, 1, none⟩ (.int .i64 ((z.p : Int) + 1 + 1))).alloc (.cells Z 54) = w1 at *
    obtain ⟨g0, hg0⟩ : ∃ g0, g0 = w.heap.size := ⟨_, rfl⟩
    rw [← hg0] at HE0 ⊢
    have HG0 := qa hg0
    have c0' := HE0.o.box.c0
    clear hg0 c0 c1 f1 hix
    by_cases q89 : c = 110
    · have HR : Hid (R = ((gG 10, false), bA (bA z))) := qa (by rw [hR2, q89]; rfl)
      subst q89
      clear hR2
      go_wp2_with (first
        | ((with_reducible refine (HOF.o 10 _).mono ?_); rintro e w2 ⟨rfl, hx⟩; have HE2 := qa (HE0.o.ext hx); clear hx)
        | (refine aL rfl _ _ rfl g0 rfl _ _ rfl HE2.o.set ?_; intro w3 hB2 hg2; have HE3 := qa (HE2.o.store hB2 hg2); clear hB2 hg2))
      refine bB (s := 2) (b := 3) (ad := ⟨g0, 0, none⟩) (x := dU (gG 10)) (y := .bool false) rfl rfl rfl rfl HE3.o.set.load ?_
      exact ⟨_, false, _, rfl, pF _, HE3.o.qs, Al.same HR.o HP.o.1 HP.o.2⟩
    have k110 : ¬ c.toNat = 110 := fun e => q89 (UInt8.toNat_inj.1 e)
    have k110' : ((c.toNat : Int) == 110) = false := kO (b := 110) q89
    by_cases q87 : c = 116
    · have HR : Hid (R = ((gG 9, false), bA (bA z))) := qa (by rw [hR2, q87]; rfl)
      subst q87
      clear hR2
      go_wp2_with (first
        | ((with_reducible refine (HOF.o 9 _).mono ?_); rintro e w2 ⟨rfl, hx⟩; have HE2 := qa (HE0.o.ext hx); clear hx)
        | (refine aL rfl _ _ rfl g0 rfl _ _ rfl HE2.o.set ?_; intro w3 hB2 hg2; have HE3 := qa (HE2.o.store hB2 hg2); clear hB2 hg2))
      refine bB (s := 2) (b := 3) (ad := ⟨g0, 0, none⟩) (x := dU (gG 9)) (y := .bool false) rfl rfl rfl rfl HE3.o.set.load ?_
      exact ⟨_, false, _, rfl, pF _, HE3.o.qs, Al.same HR.o HP.o.1 HP.o.2⟩
    have k116 : ¬ c.toNat = 116 := fun e => q87 (UInt8.toNat_inj.1 e)
    have k116' : ((c.toNat : Int) == 116) = false := kO (b := 116) q87
    by_cases q88 : c = 115
    · have HR : Hid (R = ((gG 32, false), bA (bA z))) := qa (by rw [hR2, q88]; rfl)
      subst q88
      clear hR2
      go_wp2_with (first
        | ((with_reducible refine (HOF.o 32 _).mono ?_); rintro e w2 ⟨rfl, hx⟩; have HE2 := qa (HE0.o.ext hx); clear hx)
        | (refine aL rfl _ _ rfl g0 rfl _ _ rfl HE2.o.set ?_; intro w3 hB2 hg2; have HE3 := qa (HE2.o.store hB2 hg2); clear hB2 hg2))
      refine bB (s := 2) (b := 3) (ad := ⟨g0, 0, none⟩) (x := dU (gG 32)) (y := .bool false) rfl rfl rfl rfl HE3.o.set.load ?_
      exact ⟨_, false, _, rfl, pF _, HE3.o.qs, Al.same HR.o HP.o.1 HP.o.2⟩
    have k115 : ¬ c.toNat = 115 := fun e => q88 (UInt8.toNat_inj.1 e)
    have k115' : ((c.toNat : Int) == 115) = false := kO (b := 115) q88
    by_cases q8a : c = 100
    · have HR : Hid (R = ((zC, true), bA (bA z))) := qa (by rw [hR2, q8a]; rfl)
      have HD : Hid (∀ W, Calls prog 93 #[.int .u8 48, .int .u8 57] W (eG zC W)) := qa (fun W => xQ 48 57 W)
      subst q8a
      clear hR2
      generalize hdg : zC = dg at *
      have hdl : dg < 2 ^ 256 := by rw [← hdg]; exact q1N
      have HDL := qa hdl
      clear hdl hdg
      go_wp2_with (first
        | ((with_reducible refine (HD.o _).mono ?_); rintro e w2 ⟨rfl, hx⟩; have HE2 := qa (HE0.o.ext hx); clear hx)
        | (refine aL rfl _ _ rfl g0 rfl _ _ rfl HE2.o.set ?_; intro w3 hB2 hg2; have HE3 := qa (HE2.o.store hB2 hg2); clear hB2 hg2))
      refine bB (s := 2) (b := 3) (ad := ⟨g0, 0, none⟩) (x := dU dg) (y := .bool true) rfl rfl rfl rfl HE3.o.set.load ?_
      exact ⟨_, true, _, rfl, HDL.o, HE3.o.qs, Al.same HR.o HP.o.1 HP.o.2⟩
    have k100 : ¬ c.toNat = 100 := fun e => q8a (UInt8.toNat_inj.1 e)
    have k100' : ((c.toNat : Int) == 100) = false := kO (b := 100) q8a
    by_cases q86 : c = 119
    · have HR : Hid (R = ((gG 95 ||| (zC ||| (iD 65 90 ||| iD 97 122)), true), bA (bA z))) := qa (by rw [hR2, q86, Nat.or_comm (iD 65 90)]; rfl)
      have hdl := q1N
      have hll := q3G
      have hul := q4H
      have h1l := pF 95
      have HD : Hid (∀ W, Calls prog 93 #[.int .u8 48, .int .u8 57] W (eG zC W)) := qa (fun W => xQ 48 57 W)
      have HU : Hid (∀ W, Calls prog 93 #[.int .u8 65, .int .u8 90] W (eG (iD 65 90) W)) := qa (fun W => xQ 65 90 W)
      have HL : Hid (∀ W, Calls prog 93 #[.int .u8 97, .int .u8 122] W (eG (iD 97 122) W)) := qa (fun W => xQ 97 122 W)
      have HO1 : Hid (∀ W, Calls prog 94 #[dU (iD 65 90), dU (iD 97 122)] W (eG (iD 65 90 ||| iD 97 122) W)) := qa (fun W => orQ hul hll W)
      have HO2 : Hid (∀ W, Calls prog 94 #[dU zC, dU (iD 65 90 ||| iD 97 122)] W (eG (zC ||| (iD 65 90 ||| iD 97 122)) W)) := qa (fun W => orQ hdl (gQ hul hll) W)
      have HO3 : Hid (∀ W, Calls prog 94 #[dU (gG 95), dU (zC ||| (iD 65 90 ||| iD 97 122))] W (eG (gG 95 ||| (zC ||| (iD 65 90 ||| iD 97 122))) W)) := qa (fun W => orQ h1l (gQ hdl (gQ hul hll)) W)
      have HOL := qa (gQ h1l (gQ hdl (gQ hul hll)))
      have qcb := qa (fun W => HOF.o 95 W)
      subst q86
      clear hR2 hdl hll hul h1l HOF
      generalize gG 95 ||| (zC ||| (iD 65 90 ||| iD 97 122)) = x4 at *
      generalize zC ||| (iD 65 90 ||| iD 97 122) = x3 at *
      generalize iD 65 90 ||| iD 97 122 = x2 at *
      generalize iD 65 90 = xu at *
      generalize iD 97 122 = xl at *
      generalize gG 95 = xo at *
      generalize zC = xd at *
      go_wp2_with (first
        | ((with_reducible refine (qcb.o _).mono ?_); rintro e w2 ⟨rfl, hx⟩; have HE2 := qa (HE0.o.ext hx); clear hx)
        | ((with_reducible refine (HD.o _).mono ?_); rintro e w3 ⟨rfl, hx⟩; have HE3 := qa (HE2.o.ext hx); clear hx)
        | ((with_reducible refine (HU.o _).mono ?_); rintro e w4 ⟨rfl, hx⟩; have HE4 := qa (HE3.o.ext hx); clear hx)
        | ((with_reducible refine (HL.o _).mono ?_); rintro e w5 ⟨rfl, hx⟩; have HE5 := qa (HE4.o.ext hx); clear hx)
        | ((with_reducible refine (HO1.o _).mono ?_); rintro e w6 ⟨rfl, hx⟩; have HE6 := qa (HE5.o.ext hx); clear hx)
        | ((with_reducible refine (HO2.o _).mono ?_); rintro e w7 ⟨rfl, hx⟩; have HE7 := qa (HE6.o.ext hx); clear hx)
        | ((with_reducible refine (HO3.o _).mono ?_); rintro e w8 ⟨rfl, hx⟩; have HE8 := qa (HE7.o.ext hx); clear hx)
        | (refine aL rfl _ _ rfl g0 rfl _ _ rfl HE8.o.set ?_; intro w9 hB2 hg2; have HE9 := qa (HE8.o.store hB2 hg2); clear hB2 hg2))
      refine bB (s := 2) (b := 3) (ad := ⟨g0, 0, none⟩) (x := dU x4) (y := .bool true) rfl rfl rfl rfl HE9.o.set.load ?_
      exact ⟨_, true, _, rfl, HOL.o, HE9.o.qs, Al.same HR.o HP.o.1 HP.o.2⟩
    have k119 : ¬ c.toNat = 119 := fun e => q86 (UInt8.toNat_inj.1 e)
    have k119' : ((c.toNat : Int) == 119) = false := kO (b := 119) q86
    have hR3 : R = if c ∈ xL then ((gG c, false), bA (bA z)) else if c = 120 then match q1K (bys s) (z.p + 1) with
            | some b => ((gG b, false), ⟨z.p + 4, z.e, z.b⟩)
            | none => ((0, false), b9 15 (z.p + 1) (bA (bA z)))
          else ((0, false), b9 15 (z.p + 1) (bA (bA z))) := by
      rw [hR2]
      unfold q3A q3B
      rw [qu q8a, qu q86, qu q89, qu q87, qu q88]
      by_cases hm : c ∈ xL
      · rw [qv hm, qv hm]
      · rw [qu hm, qu hm]
    clear hR2
    have hxR : q1K (bys s) (z.p + 1) = if z.p + 1 + 2 < s.size ∧ 0 ≤ dgR ((bys s).getD (z.p + 1 + 1) 0) ∧ 0 ≤ dgR ((bys s).getD (z.p + 1 + 2) 0) then some (UInt8.ofNat (16 * (dgR ((bys s).getD (z.p + 1 + 1) 0)).toNat + (dgR ((bys s).getD (z.p + 1 + 2) 0)).toNat)) else none := by
      unfold q1K; rw [bH]; simp only [q5G, jm]
    have HI1 : Hid (z.p + 1 + 2 < s.size → ∀ W, (Instr.index 9 (.string s) (.int .i64 ((z.p : Int) + 1 + 1))).run prog W = .ok (.int .u8 (((bys s).getD (z.p + 1 + 1) 0).toNat : Nat)) W) := qa (fun hp W => eY (P := prog) 9 (by kernel_rfl) (show z.p + 1 + 1 < s.size by omega) W)
    have HI2 : Hid (z.p + 1 + 2 < s.size → ∀ W, (Instr.index 9 (.string s) (.int .i64 ((z.p : Int) + 1 + 2))).run prog W = .ok (.int .u8 (((bys s).getD (z.p + 1 + 2) 0).toNat : Nat)) W) := qa (fun hp W => eY (P := prog) 9 (by kernel_rfl) hp W)
    have HH := qa (fun c W => q5E c W)
    have hd1 := q2T ((bys s).getD (z.p + 1 + 1) 0)
    have hd2 := q2T ((bys s).getD (z.p + 1 + 2) 0)
    generalize (bys s).getD (z.p + 1 + 1) 0 = c1 at *
    generalize (bys s).getD (z.p + 1 + 2) 0 = c2 at *
    have HH1 := qa (fun W => HH.o c1 W)
    have HH2 := qa (fun W => HH.o c2 W)
    generalize dgR c1 = n1 at *
    generalize dgR c2 = n2 at *
    obtain ⟨hb, hhb⟩ : ∃ hb : Bool, hb = decide (c = 120 ∧ z.p + 1 + 2 < s.size ∧ 0 ≤ n1 ∧ 0 ≤ n2) := ⟨_, rfl⟩
    have HHB := qa hhb
    have HR3 := qa hR3
    have HXR := qa hxR
    clear hhb hR3 hxR HH
    go_upto_region 17 with (fail)
    go_cut [33, 59] (fun _ x wx => x = .bool hb ∧ QEs w wx g s (bA (bA z)) g0 0)
    case first =>
      by_cases q6i : c = 120
      · have k120 : ((c.toNat : Int) == 120) = true := by rw [q6i]; rfl
        by_cases hp3 : z.p + 1 + 2 < s.size
        · have q3 : (z.p : Int) + 1 + 2 < (s.size : Int) := by omega
          have q3d : decide ((z.p : Int) + 1 + 2 < (s.size : Int)) = true := qy q3
          have qa6 := HI1.o hp3
          have q8X := HI2.o hp3
          by_cases hn1 : 0 ≤ n1
          · have q1d : decide ((0 : Int) ≤ n1) = true := qy hn1
            obtain ⟨r, hr⟩ : ∃ r : Bool, r = decide ((0 : Int) ≤ n2) := ⟨_, rfl⟩
            have HB2 : Hid (hb = r) := qa (by rw [HHB.o, hr]; simp [q6i, hp3, hn1])
            cases r with
            | true =>
              have q2 : (0 : Int) ≤ n2 := jb hr.symm
              exact ZmH1
            | false =>
              exact ZmH1
          · have q1d : decide ((0 : Int) ≤ n1) = false := qw hn1
            have HB2 : Hid (hb = false) := qa (by rw [HHB.o]; simp [hn1])
            clear HHB HR3 HXR q6i hn1
            go_wp2_with ((with_reducible refine (HH1.o _).mono ?_); rintro e w2 ⟨rfl, hx⟩; have HE2 := qa (HE0.o.ext hx); clear hx)
            go_meet
            case rel => exact ⟨by rw [HB2.o], HE2.o⟩
        · have q3d : decide ((z.p : Int) + 1 + 2 < (s.size : Int)) = false := qw (by omega)
          have HB2 : Hid (hb = false) := qa (by rw [HHB.o]; simp [hp3])
          clear HHB HR3 HXR q6i
          go_wp2
          go_meet
          case rel => exact ⟨by rw [HB2.o], HE0.o⟩
      · have k120 : ¬ c.toNat = 120 := fun e => q6i (UInt8.toNat_inj.1 e)
        have k120' : ((c.toNat : Int) == 120) = false := kO (b := 120) q6i
        have HB2 : Hid (hb = false) := qa (by rw [HHB.o]; simp [q6i])
        clear HHB HR3 HXR q6i
        go_wp2
        go_meet
        case rel => exact ⟨by rw [HB2.o], HE0.o⟩
    case rest =>
      obtain ⟨rfl, hE⟩ := hcut
      have HE1 := qa hE
      clear hE HE0 c0'
      have c0' := HE1.o.box.c0
      cases hb with
      | true =>
        have hq := HHB.o
        have hq' := jb hq.symm
        obtain ⟨q6i, hp3, hn1, hn2⟩ := hq'
        obtain ⟨m1, rfl⟩ : ∃ m : Nat, n1 = (m : Int) := ⟨n1.toNat, by omega⟩
        obtain ⟨m2, rfl⟩ : ∃ m : Nat, n2 = (m : Int) := ⟨n2.toNat, by omega⟩
        have HR : Hid (R = ((gG (UInt8.ofNat (16 * m1 + m2)), false), ⟨z.p + 4, z.e, z.b⟩)) := qa (by
          rw [HR3.o, HXR.o, qu (by rw [q6i]; decide), qv q6i, qv ⟨hp3, by omega, by omega⟩]; rfl)
        have qa6 := HI1.o hp3
        have q8X := HI2.o hp3
        have HO := qa (fun W => HOF.o (UInt8.ofNat (16 * m1 + m2)) W)
        have f1 := HE1.o.box.free 1
        have c1w := HE1.o.box.c1
        have hcv := fun W => G9 (UInt8.ofNat (16 * m1 + m2)) W
        rw [show ((UInt8.ofNat (16 * m1 + m2)).toNat : Int) = 16 * (m1 : Int) + (m2 : Int) by simp; omega] at hcv
        generalize UInt8.ofNat (16 * m1 + m2) = ch at *
        have HE2 : Hid (QEs w (wc.setCell ⟨g, 1, none⟩ (.int .i64 ((z.p : Int) + 1 + 3))) g s ⟨z.p + 4, z.e, z.b⟩ g0 0) := qa (by
          obtain ⟨a, b⟩ := HE1.o.box.hop (z.p + 4) (v := (z.p : Int) + 1 + 3) (by omega)
          exact HE1.o.act a b)
        clear hq HHB HR3 HXR q6i HPF HP c0'
        go_upto_region 19 with (fail)
        generalize wc.setCell ⟨g, 1, none⟩ (.int .i64 ((z.p : Int) + 1 + 3)) = w5 at *
        have c05 := HE2.o.box.c0
        have hl5 := HE2.o.box.lt
        have hne : ¬ g = g0 := by have := HE2.o.lo; have := HE2.o.gl; omega
        refine fD (C := fun w' => ∃ x, w' = chg w5 (some g0) x) (.q 0 (.q 1 (.q 2 (.q 3 (.q 4 (.q 5 (.q 6 (.q 9 (.q 10 (.q 11 (.q 12 (.q 13 (.q 14 (.q 15 (.br 7 (.q 8 (.br 16 (.q 17 (.q 18 (.br 19 (.br 20 (.br 21 (.br 22 (.br 23 .done .no) .no) .no) .no) .no))) .no)) .no))))))))))))))) (by kernel_rfl) (by kernel_rfl) (cO (eK _ _)) ?_
        (repeat ((unfold aN; simp only [pk]); go_big_quiet_step (fail); refine wpQuiet_nil ?_))
        have HE3 := qa (HE2.o.below (aW w5 1))
        have HG3 : Hid (w5.grownBy w5.drew (some g0)) := qa (eK w5 _)
        rw [show w5.drewN 1 = w5.drew from rfl] at HE3
        clear f1 c1w
        ((unfold aN; simp only [pk]); refine ⟨?_, by unfold aN; trivial⟩; unfold aD)
        go_wp2_with ((with_reducible refine (HH1.o _).mono ?_); rintro e w6 ⟨rfl, hx⟩; have HE4 := qa (HE3.o.ext hx); have HG4 := qa (aK HG3.o (aI (aE hx) _)); clear hx)
        refine ⟨cO HG4.o, ?_⟩
        unfold aD
        (repeat ((unfold aN; simp only [pk]); go_big_quiet_step (fail); refine wpQuiet_nil ?_))
        ((unfold aN; simp only [pk]); refine ⟨?_, by unfold aN; trivial⟩; unfold aD)
        go_wp2_with ((with_reducible refine (HH2.o _).mono ?_); rintro e w7 ⟨rfl, hx⟩; have HE5 := qa (HE4.o.ext hx); have HG5 := qa (aK HG4.o (aI (aE hx) _)); clear hx)
        refine ⟨cO HG5.o, ?_⟩
        unfold aD
        (repeat ((unfold aN; simp only [pk]); go_big_quiet_step (fail); refine wpQuiet_nil ?_))
        ((unfold aN; simp only [pk]); refine ⟨?_, by unfold aN; trivial⟩; unfold aD)
        go_wp2
        have HBA := aB w7 (.cells #[.int .u8 (16 * (m1 : Int) + (m2 : Int))] 5)
        have HE6 := qa (HE5.o.below HBA)
        have HG6 := qa (aK HG5.o (aI HBA _))
        have qbv := hcv w7
        clear HBA
        refine ⟨cO HG6.o, ?_⟩
        unfold aD
        ((unfold aN; simp only [pk]); refine ⟨?_, by unfold aN; trivial⟩; unfold aD)
        go_wp2
        refine ⟨cO HG6.o, ?_⟩
        unfold aD
        ((unfold aN; simp only [pk]); refine ⟨?_, by unfold aN; trivial⟩; unfold aD)
        go_wp2_with ((with_reducible refine (HO.o _).mono ?_); rintro e w8 ⟨rfl, hx⟩; have HE7 := qa (HE6.o.ext hx); have HG7 := qa (aK HG6.o (aI (aE hx) _)); clear hx)
        refine ⟨cO HG7.o, ?_⟩
        unfold aD
        ((unfold aN; simp only [pk]); refine ⟨?_, by unfold aN; trivial⟩; unfold aD)
        go_wp2_with (refine aL rfl _ _ rfl g0 rfl _ _ rfl HE7.o.set ?_; intro w9 hB2 hg2; have HE8 := qa (HE7.o.store hB2 hg2); have HG8 := qa (aK HG7.o hg2); clear hB2 hg2)
        refine ⟨cO HG8.o, ?_⟩
        unfold aD
        ((unfold aN; simp only [pk]); refine ⟨?_, by unfold aN; trivial⟩; unfold aD)
        go_wp2
        refine ⟨cO HG8.o, ?_⟩
        unfold aD
        unfold aN
        intro hz8 hz9
        clear hz9
        go_wp2
        refine bB (s := 2) (b := 3) (ad := ⟨g0, 0, none⟩) (x := dU (gG ch)) (y := .bool false) rfl rfl rfl rfl HE8.o.set.load ?_
        exact ⟨_, false, _, rfl, pF _, HE8.o.qs, Al.same HR.o (by show z.p ≤ z.p + 4; omega) (by show z.p + 4 ≤ s.size; omega)⟩
      | false =>
        have HMC := qa (fun W => HMA.o c W)
        by_cases hm : c ∈ xL
        · have HR : Hid (R = ((gG c, false), bA (bA z))) := qa (by rw [HR3.o, qv hm])
          have hcv := fun W => G9 c W
          have HO := qa (fun W => HOF.o c W)
          rw [qy hm] at HMC
          clear HHB HR3 HXR hm HOF
          go_wp2_with (first
            | ((with_reducible refine (HMC.o _).mono ?_); rintro e w2 ⟨rfl, hx⟩; have HE2 := qa (HE1.o.ext hx); have qbv := hcv w2; have HE3 := qa (HE2.o.below (aB w2 (.cells #[.int .u8 (c.toNat : Nat)] 5))); clear hx)
            | ((with_reducible refine (HO.o _).mono ?_); rintro e w3 ⟨rfl, hx⟩; have HE4 := qa (HE3.o.ext hx); clear hx)
            | (refine aL rfl _ _ rfl g0 rfl _ _ rfl HE4.o.set ?_; intro w4 hB2 hg2; have HE5 := qa (HE4.o.store hB2 hg2); clear hB2 hg2))
          refine bB (s := 2) (b := 3) (ad := ⟨g0, 0, none⟩) (x := dU (gG c)) (y := .bool false) rfl rfl rfl rfl HE5.o.set.load ?_
          exact ⟨_, false, _, rfl, pF _, HE5.o.qs, Al.same HR.o HP.o.1 HP.o.2⟩
        · have HR : Hid (R.2.e ≠ 0) := qa (by
            have h := HHB.o
            rw [HR3.o, qu hm]
            split
            · rename_i q6i
              rw [HXR.o, qu (fun hh => by rw [qy ⟨q6i, hh.1, hh.2.1, hh.2.2⟩] at h; cases h)]
              exact bN _ (by decide)
            · exact bN _ (by decide))
          rw [qw hm] at HMC
          clear HHB HR3 HXR hm HOF
          go_wp2_with (first
            | ((with_reducible refine (HMC.o _).mono ?_); rintro e w2 ⟨rfl, hx⟩; have HE2 := qa (HE1.o.ext hx); clear hx)
            | ((with_reducible refine (HF.o _ _ HE2.o.box).mono ?_); rintro e w3 ⟨rfl, hB, hg⟩; have HE3 := qa (HE2.o.act hB hg); clear hB hg)
            | (refine aL rfl _ _ rfl g0 rfl _ 0 HZV.o HE3.o.set ?_; intro w4 hB2 hg2; have HE4 := qa (HE3.o.store hB2 hg2); clear hB2 hg2))
          refine bB (s := 2) (b := 3) (ad := ⟨g0, 0, none⟩) (x := dU 0) (y := .bool false) rfl rfl rfl rfl HE4.o.set.load ?_
          exact ⟨_, false, _, rfl, HL0.o, HE4.o.qs, Al.fault _ HR.o HPF.o.2.2 HPF.o.1 HPF.o.2.1⟩
theorem q03(s:ByteArray)(a:Nat)(h:a<s.size):s.extract a (a+1)=⟨#[(bys s).getD a 0]⟩:=by
 have hl:a<(bys s).length:=by rw[bH];exact h
 refine zU (l:=[(bys s).getD a 0]) ?_;rw[show a+1-a=1 by omega,jC hl,qt,qx hl];rfl
theorem q5H{w:World}{g:Nat}{s:ByteArray}{z:PS}(h:cN w g s z)(hs:s.size<=1000000)(hz0:z.e=0)(hzp:z.p<=s.size):
  Calls prog 91 #[.pointer (some ⟨g,0,none⟩)] w (q4f (fO (bys s) z) g s z w):=by
 have hz:=nQ;obtain⟨Z,hZ⟩:∃Z,Z=z4:=⟨_,rfl⟩;rw[<-hZ]at hz;have HZV:Hid (Value.agg Z=dU 0):=qa (by rw[hZ];rfl);have HEA:Hid (QEs w (w.alloc (.cells Z 54)) g s z w.heap.size 0):=qa ⟨h.up (aB _ _),fH w Z hZ,aI (aB _ _) _,qb _,h.lt⟩;have HF:Hid (∀W,cN W g s z->Calls prog 30 #[.pointer (some ⟨g,0,none⟩),.int .i64 15,.int .i64 z.p] W (m8 (.tuple #[]) g s (b9 15 z.p z) W)):=qa (fun W h=>vY h 15 z.p);have HES:Hid (∀W,nxR (bys s) z=some 92->cN W g s z->Calls prog 88 #[.pointer (some ⟨g,0,none⟩)] W (q4f (tV (bys s) z) g s z W)):=qa (fun W hc h=>q5l h hs hc);have HSL:=qa (q03 s z.p);have HOF:=qa (fun c W=>q4t c W);have hnx:nxR (bys s) z=if z.p<s.size then some ((bys s).getD z.p 0)else none:=by unfold nxR;rw[bH];simp only[hz0,true_and]
 obtain⟨R,hR⟩:∃R,R=fO (bys s) z:=⟨_,rfl⟩;rw[<-hR];have HL0:Hid ((0:Nat)<2^256):=qa q4V;have HPF:Hid (z.p<=(b9 15 z.p z).p/\(b9 15 z.p z).p<=s.size/\(b9 15 z.p z).e≠0):=qa (by rw[dH];exact⟨qb _,hzp,bN _ (by decide)⟩);obtain⟨g0,hg0⟩:∃g0,g0=w.heap.size:=⟨_,rfl⟩;have q6V:Hid (∀W,cN W g s z->Calls prog 68 #[.pointer (some ⟨g,0,none⟩),.int .u8 92] W fun e w'=>e=.returned (.bool (gE (bys s) 92 z))/\∃x,w'=ext W x):=qa (fun W h=>isQ h 92);have q8l:Hid (∀W,cN W g s z->Calls prog 68 #[.pointer (some ⟨g,0,none⟩),.int .u8 45] W fun e w'=>e=.returned (.bool (gE (bys s) 45 z))/\∃x,w'=ext W x):=qa (fun W h=>isQ h 45);rw[<-hg0]at HEA;have hne:¬g=g0:=by have:=h.lt;omega
 have HG0:=qa hg0;clear h hZ;go_enter func91,ntmps91;cases h92:gE (bys s) 92 z with
 |true=>
  obtain⟨-,-,hn⟩:=iG h92;have HR:Hid (R=tV (bys s) z):=qa (by rw[hR];unfold fO;rw[hn];rfl);have HE:=qa (fun W=>HES.o W hn);rw[h92]at q6V;clear hR hnx HES h92 hn;rw[hg0]at HEA hne
  go_wp2_with(first
   |((with_reducible refine(q6V.o _ HEA.o.box).mono ?_);rintro e w1 ⟨rfl,hx⟩;have HE1:=qa (HEA.o.ext hx);clear hx)
   |((with_reducible refine(HE.o _ HE1.o.box).mono ?_);rintro e w2 ⟨x,b,z',rfl,hxl,hQ,hA⟩;have HXL:=qa hxl;have HE2:=qa (HE1.o.act hQ.box hQ.gr);have HAL:=qa hA;clear hxl hQ hA)
   |(refine aL rfl _ _ rfl w.heap.size rfl _ x rfl HE2.o.set ?_;intro w3 hB2 hg2;have HE3:=qa (HE2.o.store hB2 hg2);clear hB2 hg2))
  refine bB (s:=2) (b:=3) (ad:=⟨w.heap.size,0,none⟩) (x:=dU x) (y:=.bool b) rfl rfl rfl rfl HE3.o.set.load ?_;exact⟨x,b,z',rfl,HXL.o,HE3.o.qs,by rw[HR.o];exact HAL.o⟩
 |false=>
  rw[h92]at q6V;clear HES;rw[hg0]at HEA hne
  go_upto_region 3 with((with_reducible refine(q6V.o _ HEA.o.box).mono ?_);rintro e w1 ⟨rfl,hx⟩;have HE1:=qa (HEA.o.ext hx);clear hx)
  have c0:=HE1.o.box.c0;have c1:=HE1.o.box.c1;have hg1:=HE1.o.box.lt;by_cases h45:gE (bys s) 45 z=true
  ·have HR:Hid (R.2.e≠0):=qa (by
    obtain⟨-,-,hn⟩:=iG h45;rw[hR];unfold fO;rw[hn];exact bN _ (by decide))
   rw[h45]at q8l;clear hR hnx h45 h92;refine bL (by kernel_rfl) (by kernel_rfl) ?_
   exact ZmH0
  have h45:gE (bys s) 45 z=false:=by simpa using h45
  rw[h45]at q8l;by_cases hp:z.p<s.size
  ·rw[qv hp]at hnx
   have q7K:(bys s).getD z.p 0≠92:=fun e=>by unfold gE at h92;rw[hnx,e]at h92;simp at h92
   have q7L:(bys s).getD z.p 0≠45:=fun e=>by unfold gE at h45;rw[hnx,e]at h45;simp at h45
   have HR:Hid (R=((gG ((bys s).getD z.p 0),false),bA z)):=qa (by
    rw[hR];unfold fO;rw[hnx];simp only[qu q7K,qu q7L])
   have hpi:decide ((s.size:Int)<=(z.p:Int))=false:=qw (by omega);have hpn:¬s.size<=z.p:=by omega
   have HSC:=qa (HSL.o hp);generalize (bys s).getD z.p 0=c at*;have HO:Hid (∀W,Calls prog 87 #[.string (s.extract z.p (z.p+1))] W (eG (gG c) W)):=qa (fun W=>by rw[HSC.o];exact HOF.o c W);clear hR hnx h45 h92 q7K q7L HSL HOF;refine bL (by kernel_rfl) (by kernel_rfl) ?_
   repeat(go_big_quiet_step ((go_at_call 68;(with_reducible exact cC (q8l.o _ (HE1.o.box.up (aC _ _)))))))
   refine wpQuiet_nil ?_;intro w2 hw2;have HE2:=qa (HE1.o.ext hw2);have c12:=HE2.o.box.c1;have f12:=HE2.o.box.free 1;have HE3:=qa HE2.o.inc;clear hw2 c0 c1 hg1
   go_upto_region 7 with(fail)
   generalize w2.setCell ⟨g,1,none⟩ (.int .i64 ((z.p:Int)+1))=w3 at*;have c03:=HE3.o.box.c0;have c13:=HE3.o.box.c11;have hg3:=HE3.o.box.lt;clear c12 f12;refine fD (C:=fun w'=>∃x,w'=chg w3 (some w.heap.size) x) (.q 0 (.q 1 (.q 2 (.q 3 (.q 4 (.q 5 (.q 6 (.q 7 (.q 8 (.q 9 (.q 10 (.q 11 (.q 12 (.q 13 (.br 14 (.br 15 (.br 16 .done .no) .no) .no))))))))))))))) (by kernel_rfl) (by kernel_rfl) (cO (eK _ _)) ?_
   (repeat((unfold aN;simp only[pk]);go_big_quiet_step (fail);refine wpQuiet_nil ?_))
   have HE4:=qa (HE3.o.below (aW w3 1));have HG4:Hid (w3.grownBy w3.drew (some w.heap.size)):=qa (eK w3 _);rw[show w3.drewN 1=w3.drew from rfl]at HE4
   ((unfold aN;simp only[pk]);refine⟨?_,by unfold aN;trivial⟩;unfold aD)
   go_wp2_with((with_reducible refine(HO.o _).mono ?_);rintro e w5 ⟨rfl,hx⟩;have HE5:=qa (HE4.o.ext hx);have HG5:=qa (aK HG4.o (aI (aE hx) _));clear hx)
   refine⟨cO HG5.o,?_⟩;unfold aD
   ((unfold aN;simp only[pk]);refine⟨?_,by unfold aN;trivial⟩;unfold aD)
   go_wp2_with(refine aL rfl _ _ rfl w.heap.size rfl _ _ rfl HE5.o.set ?_;intro w6 hB2 hg2;have HE6:=qa (HE5.o.store hB2 hg2);have HG6:=qa (aK HG5.o hg2);clear hB2 hg2)
   refine⟨cO HG6.o,?_⟩;unfold aD
   ((unfold aN;simp only[pk]);refine⟨?_,by unfold aN;trivial⟩;unfold aD)
   go_wp2;refine⟨cO HG6.o,?_⟩;unfold aD;unfold aN;intro hz8 hz9;clear hz9;go_wp2;refine bB (s:=2) (b:=3) (ad:=⟨w.heap.size,0,none⟩) (x:=dU (gG c)) (y:=.bool false) rfl rfl rfl rfl HE6.o.set.load ?_;exact⟨_,false,_,rfl,pF _,HE6.o.qs,Al.same HR.o (by show z.p<=z.p+1;omega) (by show z.p+1<=s.size;omega)⟩
  rw[qu hp]at hnx;have HR:Hid (R.2.e≠0):=qa (by rw[hR];unfold fO;rw[hnx];exact bN _ (by decide));have hpi:decide ((s.size:Int)<=(z.p:Int))=true:=qy (by omega);have hpn:s.size<=z.p:=by omega
  clear hR hnx h45 h92 HSL;refine bL (by kernel_rfl) (by kernel_rfl) ?_
  exact ZmH0
theorem q5I(x:Nat)(w:World):Calls prog 84 #[dU x] w (sV w [setN x]):=by
 obtain⟨X,hX⟩:∃X,X=(wsV x).toArray:=⟨_,rfl⟩;have HB0:Hid (fP (w.alloc (.cells X 54)) w.heap.size x):=qa (by rw[hX];exact m4 w x);obtain⟨C,hC⟩:∃C:Array Value,C=#[.int .i64 1,.int .i64 0,.int .u64 (wdR x 0:Nat),.int .u64 (wdR x 1:Nat),.int .u64 (wdR x 2:Nat),.int .u64 (wdR x 3:Nat),.int .i64 0,.int .i64 0]:=⟨_,rfl⟩
 have HO:Hid (aR ((w.alloc (.cells X 54)).alloc (.cells C 77)) w.heap.size (.slice (some ⟨w.heap.size+1,0,none⟩) 1 1) [setN x]):=qa (by
  have:=iX 8 (w.alloc (.cells X 54)) w.heap.size C 77 [ndC (setN x)] (by rw[hC];rfl) (by intro y hy;simp at hy;subst hy;rfl) (by simp) (by simp);rw[show(w.alloc (.cells X 54)).heap.size=w.heap.size+1 by simp]at this;exact this)
 have HBL:Hid (Below w.heap.size w ((w.alloc (.cells X 54)).alloc (.cells C 77))):=qa aS;rw[hC]at HO HBL;rw[show dU x=.agg X by rw[hX];rfl];clear hX hC;go_enter func84,ntmps84
 go_wp2_with(refine Z8 rfl _ rfl w.heap.size rfl x HB0.o ?_)
 go_ret;exact⟨_,rfl,HO.o,HBL.o⟩
theorem q4g{w:World}{x:Nd}{kv:Value}{vs:List Value}{ks:List (List Nd)}(hk:Sl w kv vs)(hl:vs.length=ks.length)(hn:∀i,i<ks.length->aO w (vs.getD i undef) (ks.getD i []))(hb:ks.flatten.length<=500000000):
  Calls prog 70 #[.agg (ndA x),kv] w (sV w (f6 x ks)):=by
 obtain⟨oa,cap,b,off,rfl,hd,hc⟩:=hk;rw[hl]at hd hc⊢;have hix:=fun(W:World) (i:Nat) (hi:i<ks.length)=>aZ (P:=prog) 22 39 underlying22 (by kernel_rfl) hd W .i64 i (by omega) (by omega);simp only[qC]at hix;have HIX:=qa hix;have hm:=hd.len;have hblk:=hd.hblk;have HC:=qa hc;have HN:=qa hn;obtain⟨X,hX⟩:∃X:Array Value,X=ndA x:=⟨_,rfl⟩;have HB0:=qa (F1 w x X hX);have c1:=HB0.o.c1;have f1:=HB0.o.free 1;have hl0:=HB0.o.lt;obtain⟨k0,n0,a0,b0,c0,d0,l0,h0⟩:=x;have HN1:Hid (pQ (w.alloc (.cells (X.setIfInBounds 1 (.int .i64 (ks.length:Nat))) 77)) w.heap.size ⟨k0,(ks.length:Nat),a0,b0,c0,d0,l0,h0⟩):=qa (F1 w _ _ (by rw[hX];rfl));have HR:Hid (f6 ⟨k0,n0,a0,b0,c0,d0,l0,h0⟩ ks=⟨k0,(ks.length:Nat),a0,b0,c0,d0,l0,h0⟩::ks.flatten):=qa rfl;rw[HR.o];obtain⟨K,hK⟩:∃K,K=ks.length:=⟨_,rfl⟩;have HK:=qa hK;rw[<-hK]at hd HC HIX HN1 HN hm hblk⊢;obtain⟨w1,hw1⟩:∃w1,w1=w.alloc (.cells (X.setIfInBounds 1 (.int .i64 (K:Nat))) 77):=⟨_,rfl⟩;have hs1:w1.heap.size=w.heap.size+1:=by rw[hw1];simp
 have hb1:Below w.heap.size w w1:=by rw[hw1];exact aB w _
 obtain⟨x1,hx1⟩:∃x1:Nd,x1=⟨k0,(K:Nat),a0,b0,c0,d0,l0,h0⟩:=⟨_,rfl⟩;obtain⟨C,hC⟩:∃C:Array Value,C=#[.int .i64 k0,.int .i64 (K:Nat),.int .u64 a0,.int .u64 b0,.int .u64 c0,.int .u64 d0,.int .i64 l0,.int .i64 h0]:=⟨_,rfl⟩;have hCx:C=ndA x1:=by rw[hC,hx1];rfl
 have HB2:Hid (Below w.heap.size w (w1.alloc (.cells C 77))):=qa (hb1.trans ((aB w1 _).mono (by omega)))
 have HO2:Hid (aR (w1.alloc (.cells C 77)) w.heap.size (.slice (some ⟨w.heap.size+1,0,none⟩) 1 1) [x1]):=qa (by
  have:=iX 8 w1 w.heap.size C 77 [ndC x1] (by rw[hCx];simp[q0V]) (by intro y hy;simp at hy;subst hy;rfl) (by simp) (by omega);rw[hs1]at this;exact this)
 rw[hw1,hC]at HB2 HO2;rw[<-hX,<-hx1];clear hix hd hc hn hl hX hw1 hs1 hb1 hC hCx;have HX1:=qa hx1;clear hx1 hK;go_enter func70,ntmps70
 go_wp2_with(refine L5 rfl _ rfl w.heap.size rfl k0 (K:Nat) a0 b0 c0 d0 l0 h0 HN1.o ?_)
 generalize (w.alloc (.cells (X.setIfInBounds 1 (.int .i64 (K:Nat))) 77)).alloc (.cells #[.int .i64 k0,.int .i64 (K:Nat),.int .u64 a0,.int .u64 b0,.int .u64 c0,.int .u64 d0,.int .i64 l0,.int .i64 h0] 77)=w2 at*;clear HN1 c1 f1 hl0 HB0 HR
 go_loopg [5,6] (K+1) (fun gk lv iv wr=>∃i:Nat,i<=K/\iv=.int .i64 i/\aR wr w.heap.size lv (x1::(ks.take i).flatten)/\Below w.heap.size w wr/\gk=K+1-i)
 case atStart=>exact⟨0,qd _,rfl,by simpa using HO2.o,HB2.o,rfl⟩
 case round=>
  clear HO2 HB2;obtain⟨i,hi,rfl,hO,hB,hgk⟩:=hrel;subst hgk;have HO:=qa hO;have HB:=qa hB;clear hO hB;by_cases hlt:i<K
  ·have q64:=fun W=>HIX.o W i hlt
   have hbw:=hblk (by omega);have hcell:=(HB.o.cell (p:=⟨b,off+i,none⟩) hbw).trans (HC.o i hlt);have q80:b<wr.heap.size:=by have:=HB.o.size;omega
   have HKI:=qa (aO.up (HN.o i hlt) ((HB.o)))
   have HLE:Hid (((x1::(ks.take i).flatten).map ndC).length+((ks.getD i []).map ndC).length<=1000000000):=qa (by
    have h1:((ks.take (i+1)).flatten).length<=ks.flatten.length:=by
     have:=j7 (i+1) ks;rw[<-this,jw,qj];rw[this];omega
    rw[cK ks i [] (by rw[<-HK.o];exact hlt),jw,qj]at h1;simp only[jG]at h1;simp only[qA,qz];omega)
   have HTS:Hid (x1::(ks.take (i+1)).flatten=(x1::(ks.take i).flatten)++ks.getD i []):=qa (by
    rw[cK ks i [] (by rw[<-HK.o];exact hlt),jw];simp)
   generalize vs.getD i undef=kv at*;generalize ks.getD i []=ki at*;generalize x1::(ks.take i).flatten=cur at*;clear HN HC
   go_wp2_with(at_builtin;refine dI 8 rfl (.tmp 18) (.tmp 22) 39 rfl w.heap.size 77 (.agg (ndA zN)) 64 underlying39 (by kernel_rfl) rfl (by decide) (by decide) u5 _ rfl HO.o kv _ rfl HKI.o (q2N ki) (q2O ki) HLE.o HB.o.size ?_;intro v' w5 hown1 hg1 hk1;have HO5:=qa hown1;have HB5:=qa (HB.o.grown hg1 HB.o.size (fun k hk=>(HO.o.lt k hk).1));clear hown1 hg1 hk1)
   go_roundg (K-i)
   case measure=>omega
   case rel=>exact⟨i+1,by omega,by go_num,by rw[HTS.o];unfold aR;rw[qG];exact HO5.o,HB5.o,by omega⟩
  obtain rfl:i=K:=by omega
  rw[HK.o,j0]at HO;go_wp2;go_ret;exact⟨_,rfl,HO.o,HB.o⟩
def q4X(B:Nat)(l:List Nd)(w:World)(e:Ending)(w':World):Prop:=∃v,e=.returned v/\aR w' B v l/\Below w.heap.size w w'
theorem q4h{w:World}{B k:Nat}{kv:Value}{vs:List Value}{ks:List (List Nd)}(h:Own w B 39 kv vs)(hr:eV w B vs ks)(hB:B<=w.heap.size)(hne:ks≠[])(hs:l6 ks<=4000000):
  Calls prog 47 #[.int .i64 k,kv] w (q4X B (m3 k ks) w):=by
 have q6K:=hr.1
 match ks,hne with
 |[l1],_=>
  obtain⟨v1,hvs⟩:∃v1,vs=[v1]:=List.length_eq_one_iff.1 q6K;subst hvs;obtain⟨oa,cap,b,hv,hd,hob,hcl,-,-⟩:=h.cases;obtain⟨off,q8P⟩:∃off,off=0:=⟨_,rfl⟩;rw[<-q8P]at hd;have hv0:kv=.slice oa 1 cap:=hv;subst hv0;have hix:=fun W=>aZ (P:=prog) 22 39 underlying22 (by kernel_rfl) hd W .i64 0 (by omega) (by simp);have HN1:Hid (aR w B v1 l1):=qa (hr.2 0 (by simp));simp only[Int.toNat_zero,jD,qD]at hix;have qaf:w.cell? ⟨b,off,none⟩=some v1:=by rw[q8P];exact hcl 0 (by simp)
  clear hv q6K hd hcl hob q8P h hr;go_enter func47,ntmps47;go_wp2;go_ret;exact⟨v1,rfl,HN1.o,qn _ _⟩
 |l1::l2::ls2,_=>
  have HJ:=qa (q4g (x:=kN k) h.sl hr.1 (hr.nodes (qn _ _)) (by unfold l6 at hs;omega));obtain⟨oa,cap,b,off,hv,-,-⟩:=h.sl;rw[q6K]at hv;have hv0:kv=.slice oa (ls2.length+1+1) cap:=hv;subst hv0;have HR3:Hid (m3 k (l1::l2::ls2)=f6 (kN k) (l1::l2::ls2)):=qa rfl;have hn1:¬((ls2.length:Int)+1+1=1):=by omega
  have hn2:((ls2.length:Int)+1+1==1)=false:=by simpa using hn1
  rw[HR3.o];have HA:Hid (ndA (kN k)=#[.int .i64 k,.int .i64 0,.int .u64 0,.int .u64 0,.int .u64 0,.int .u64 0,.int .i64 0,.int .i64 0]):=qa rfl;rw[HA.o]at HJ;clear q6K hv h hr HR3 HA hs;generalize l1::l2::ls2=lss at*;generalize ls2.length=m at*;go_enter func47,ntmps47
  go_wp2_with((with_reducible refine(HJ.o).mono ?_);rintro e w2 ⟨v2,rfl,ho,hb⟩;have HO2:=qa (ho.mono hB);have HB2:=qa hb;clear ho hb)
  go_ret;exact⟨v2,rfl,HO2.o,HB2.o⟩
end Go.Cm
