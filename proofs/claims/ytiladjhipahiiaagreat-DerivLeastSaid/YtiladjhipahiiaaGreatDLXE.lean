/- Walks of functions and plain facts, joined and squeezed by a program. Conditions: as each says. -/
import Derived.Laws.Bits64b
import Derived.Lib.TrailingZeros
import Derived.Shelf.Abstract
import Derived.Deep.CutBlock
import Derived.Laws.RangeAny
import Derived.Test.YtiladjhipahiiaaGreatDLXC
import Derived.Test.YtiladjhipahiiaaGreatDLXD
set_option maxHeartbeats 8000000
set_option maxRecDepth 100000
set_option linter.unusedSimpArgs false
open Go.Proofs.Tryz
namespace Go.Cm
open Go.RowKit Go.Proofs
theorem ZmE0{P:Prop}(h:P:=by
 go_wp2
 all_goals(go_ret;refine⟨j0 (fun b=>Ending.returned (Value.bool b)) ?_,aJ ?_⟩)
 all_goals first
  |(rw[HR.o,jk];unfold okN lO yF;simp;omega)
  |(repeat' first|exact qn _ _|refine Below.setCell ?_ ?_ _|refine Below.alloc ?_ ?_ _|(simp;done)|(simp;omega))):P:=h
theorem ZmE1{P:Prop}(h:P:=by
 have HV:=qa (H0.o (HCH.o.2 ⟨by omega,h0,HZ.o,fun y hy=>by
  obtain⟨q,hq,rfl⟩:=jj hy;have:=HA.o q (by omega);rwa [q6Y l q hq]at this⟩))
 go_wp2;go_ret;exact⟨by rw[HV.o];rfl,xr,rfl⟩):P:=h
theorem ZmE2{P:Prop}(h:P:=by
 intro q hq;rcases h.1.2 with⟨h1,_⟩|⟨g,cap,cur,h1,_,hg,_⟩
 ·rw[h1]at hq;cases hq
 rw[h1]at hq;have:g=q:=by simpa[Value.ownBlock]using hq
 subst this;exact⟨cur,hg⟩):P:=h
theorem ZmE3{P:Prop}(h:P:=by
 by_cases h1:i<k
 ·rw[qz h1,qz (show i<k+1 by omega)]
 rw[qx h1,qx (show¬i<k+1 by omega)]):P:=h
theorem ZmE4{P:Prop}(h:P:=by
 rw[qx hik,Bool.or_false];by_cases h1:i<k
 ·rw[qz h1,qz (show i<k+1 by omega)]
 rw[qx h1,qx (show¬i<k+1 by omega)]):P:=h
theorem ZmE5{P:Prop}(h:P:=by
 have HV:=qa (H4.o (fun h=>by have:=(HCH.o.1 h).1;omega))
 go_wp2;go_ret;exact⟨by rw[HV.o];rfl,dP _⟩):P:=h
theorem ZmE6{P:Prop}(h:P:=by have HR:=qa hR;clear hR h hd hc;go_enter func23,ntmps23;go_wp2;go_ret;exact⟨by rw[HR.o];rfl,dP _⟩):P:=h
theorem ZmE7{P:Prop}(h:P:=by
 rcases ih with⟨rfl,-⟩|⟨rfl,-⟩
 ·rw[hr0]at h1;cases h1
 rw[hr1]at h1;cases h1):P:=h
theorem ZmE8{P:Prop}(h:P:=by
 rintro((h1|h1)|h1)
 ·exact .inl (.inl h1)
 ·exact .inr h1
 exact .inl (.inr h1)):P:=h
theorem ZmE9{P:Prop}(h:P:=by
 rcases ih with⟨rfl,-⟩|rfl
 ·rw[hr0]at h1;cases h1
 rw[hr1]at h1;cases h1):P:=h
theorem ZmE10{P:Prop}(h:P:=by
 cases b
 ·rfl
 show Row (bM i to_ u).e a=_;rw[lM,qv (fun hh=>hne hh.1)]):P:=h
theorem ZmE11{P:Prop}(h:P:=by have:=h.hl j hj;have:=h.mono' (j+1) Ls.length (by omega) (qb _);omega):P:=h
theorem yG {P : Program} (w : World) (κ : IntKind) (T E n : Nat) (hT : P.underlying T = some (.array n E)) (hE : P.underlying E = some (.int κ)) (hs : (P.info? E).map (·.size) = some 1)
    (xs ys : Array Value) (l m : List Int) (hl : l.length = n) (hm : m.length = n) (hx : ∀ i, i < n → xs[i]? = some (.int κ (l.getD i 0))) (hy : ∀ i, i < n → ys[i]? = some (.int κ (m.getD i 0))) (d : Nat) :
    (Op.equalIn (d + 2) T (.agg xs) (.agg ys)).run P w = .ok (decide (l = m)) w := by
  have hsz : ∀ W, (sizeOf E).run P W = .ok 1 W := fun W => by
    cases hq : P.info? E with
    | none => simp [hq] at hs
    | some inf => have : inf.size = 1 := by simpa [hq] using hs
                  simp [sizeOf, typeInfo, hq, this]
  have hag : ∀ W, (isAgg E).run P W = .ok false W := fun W => by unfold isAgg; rw [Sem.run_bind, run_underlying hE]; rfl
  have qds : ∀ (zs : Array Value) (q : List Int) (i : Nat) (W : World), zs[i]? = some (.int κ (q.getD i 0)) → (part E zs (i * 1)).run P W = .ok (.int κ (q.getD i 0)) W := fun zs q i W h => by
    unfold part; rw [Sem.run_bind, hag]; simp only [Result.andThen, Nat.mul_one, h]; rfl
  have hel : ∀ (x y : Int) (W : World), (Op.equalIn (d + 1) E (.int κ x) (.int κ y)).run P W = .ok (x == y) W := fun x y W => by
    rw [Op.equalIn, Sem.run_bind, run_underlying hE]; simp [Result.andThen]
  rw [Op.equalIn, Sem.run_bind, run_underlying hT]
  simp only [Result.andThen_ok, Sem.run_bind, hsz]
  have key : ∀ (k s : Nat), s + k = n → l.take s = m.take s → ∀ W, (forIn (List.range' s k) ((none, ()) : Option Bool × Unit) fun i r => do
      let __do_lift ← part E xs (i * 1)
      let __do_lift_1 ← part E ys (i * 1)
      let __do_lift ← Op.equalIn (d + 1) E __do_lift __do_lift_1
      if (!__do_lift) = true then pure (ForInStep.done (some false, ())) else pure (ForInStep.yield (none, ())) : Sem (Option Bool × Unit)).run P W = .ok (if l = m then (none, ()) else (some false, ())) W := by
    intro k
    induction k with
    | zero =>
      intro s hs' ht W
      have : l = m := by rwa [qG (by omega), qG (by omega)] at ht
      simp [this]
    | succ k ih =>
      intro s hs' ht W
      simp only [List.range'_succ, List.forIn_cons, Sem.run_bind, qds xs l s W (hx s (by omega)), Result.andThen_ok, qds ys m s W (hy s (by omega)), hel]
      by_cases he : l.getD s 0 = m.getD s 0
      · have h2 : l.take (s + 1) = m.take (s + 1) := by
          have he' : l[s]'(by omega) = m[s]'(by omega) := by simpa [List.getD, show s < l.length by omega, show s < m.length by omega] using he
          rw [qM (by omega), qM (by omega), ht, he']
        have h3 := ih (s + 1) (by omega) h2 W
        simp only [he, beq_self_eq_true, Bool.not_true, qT, jt]
        exact h3
      · have hne : l ≠ m := fun h => he (by rw [h])
        have hb : (l.getD s 0 == m.getD s 0) = false := by simpa using he
        simp only [hb, Bool.not_false, jJ, Sem.run_pure, Result.andThen_ok, hne, jt]
  have h0 := key n 0 (by omega) (by simp) w
  rw [Std.Legacy.Range.forIn_eq_forIn_range']
  simp only [Std.Legacy.Range.size, Nat.sub_zero, Nat.add_sub_cancel, Nat.div_one]
  rw [h0]
  by_cases he : l = m <;> simp [he]
def q3X(a b c d:Int):Array Value:=#[.int .u64 a,.int .u64 b,.int .u64 c,.int .u64 d]
def ndA(x:Nd):Array Value:=#[.int .i64 x.kd,.int .i64 x.n,.int .u64 x.a,.int .u64 x.b,.int .u64 x.c,.int .u64 x.d,.int .i64 x.lo,.int .i64 x.hi]
theorem q4a(a b c d:Int):∀i,i<4->(q3X a b c d)[i]? =some (.int .u64 ([a,b,c,d].getD i 0)):=by
 intro i hi;rcases(show i=0\/i=1\/i=2\/i=3 by omega)with rfl|rfl|rfl|rfl<;>rfl
theorem oY(W:World)(q:Nat)(a b c d a' b' c' d':Int):(Op.equalIn (q+2) 53 (.agg (q3X a b c d)) (.agg (q3X a' b' c' d'))).run prog W=.ok (decide ([a,b,c,d]=[a',b',c',d'])) W:=
 yG W .u64 53 51 4 underlying53 underlying51 (by kernel_rfl) _ _ [a,b,c,d] [a',b',c',d'] rfl rfl (q4a a b c d) (q4a a' b' c' d') q
theorem q37(W:World)(a b c d a' b' c' d':Int):(binOp .eql 53 (.agg (q3X a b c d)) (.agg (q3X a' b' c' d'))).run prog W=.ok (.bool (decide ([a,b,c,d]=[a',b',c',d']))) W:=by
 rw[run_eql_struct,oY W 9998];rfl
theorem q38(W:World)(a b c d a' b' c' d':Int):(binOp .neq 53 (.agg (q3X a b c d)) (.agg (q3X a' b' c' d'))).run prog W=.ok (.bool (!decide ([a,b,c,d]=[a',b',c',d']))) W:=by
 rw[run_neq_struct,oY W 9998];rfl
theorem q6X(W:World)(x:Nd):(part 53 (ndA x) 2).run prog W=.ok (.agg (q3X x.a x.b x.c x.d)) W:=by
 unfold part;have h1:(isAgg 53).run prog W=.ok true W:=by unfold isAgg;rw[Sem.run_bind,run_underlying underlying53];rfl
 rw[Sem.run_bind,h1];simp only[Result.andThen_ok,jJ,Sem.run_bind,yS (P:=prog) (E:=53) (k:=4) (by kernel_rfl)]
 rfl
theorem yV(W:World)(A:Array Value)(o:Nat)(v:Int)(h:A[o]? =some (.int .i64 v)):(part 3 A o).run prog W=.ok (.int .i64 v) W:=by
 unfold part;have h1:(isAgg 3).run prog W=.ok false W:=by unfold isAgg;rw[Sem.run_bind,run_underlying underlying3];rfl
 rw[Sem.run_bind,h1];simp only[Result.andThen_ok,h];rfl
def q16(x y:Nd):Prop:=x.kd=y.kd/\x.n=y.n/\[x.a,x.b,x.c,x.d]=[y.a,y.b,y.c,y.d]/\x.lo=y.lo/\x.hi=y.hi
instance(x y:Nd):Decidable (q16 x y):=by unfold q16;infer_instance
theorem I8(W:World)(x y:Nd):(Op.equalIn 10000 98 (.agg (ndA x)) (.agg (ndA y))).run prog W=.ok (decide (q16 x y)) W:=by
 have hu:prog.underlying 98=some (.struct (prog.fieldsOf 98)):=by simp only[Program.fieldsOf,underlying98]
 rw[run_equalIn_struct W 9999 98 _ _ hu (by kernel_rfl)];simp only[Program.fieldsOf,underlying98];have p0:=fun(W:World) (z:Nd)=>yV W (ndA z) 0 z.kd rfl;have p1:=fun(W:World) (z:Nd)=>yV W (ndA z) 1 z.n rfl;have p6:=fun(W:World) (z:Nd)=>yV W (ndA z) 6 z.lo rfl;have p7:=fun(W:World) (z:Nd)=>yV W (ndA z) 7 z.hi rfl;have ei:∀(a b:Int) (W:World),(Op.equalIn 9999 3 (.int .i64 a) (.int .i64 b)).run prog W=.ok (a==b) W:=fun a b W=>run_equalIn_int W 9998 3 .i64 .i64 a b underlying3;have es:∀(W:World),(Op.equalIn 9999 53 (.agg (q3X x.a x.b x.c x.d)) (.agg (q3X y.a y.b y.c y.d))).run prog W=.ok (decide ([x.a,x.b,x.c,x.d]=[y.a,y.b,y.c,y.d])) W:=fun W=>oY W 9997 _ _ _ _ _ _ _ _;simp only[Op.eqFields,ne_eq,String.reduceEq,not_false_eq_true,jJ,Sem.run_bind,Sem.run_ite,Sem.run_pure,p0,p1,p6,p7,q6X,Result.andThen_ok,ei,es]
 have hd:decide (q16 x y)=(x.kd==y.kd&&(x.n==y.n&&(decide ([x.a,x.b,x.c,x.d]=[y.a,y.b,y.c,y.d])&&(x.lo==y.lo&&x.hi==y.hi)))):=by
  rw[jk,jX];unfold q16;simp only[qK,a7,jX]
 rw[hd];generalize (x.kd==y.kd)=b1;generalize (x.n==y.n)=b2;generalize (x.lo==y.lo)=b4;generalize (x.hi==y.hi)=b5;generalize decide ([x.a,x.b,x.c,x.d]=[y.a,y.b,y.c,y.d])=b3;cases b1<;>cases b2<;>cases b3<;>cases b4<;>cases b5<;>rfl
theorem q17(W:World)(x y:Nd):(binOp .eql 98 (.agg (ndA x)) (.agg (ndA y))).run prog W=.ok (.bool (decide (q16 x y))) W:=by
 rw[run_eql_struct,I8];rfl
theorem q18{w:World}(lo hi:Int):Calls prog 88 #[.int .i64 lo,.int .i64 hi] w fun e w'=>e=.returned (.bool (decide (0<=lo/\lo<=30/\(hi= -1\/(lo<=hi/\hi<=30)))))/\∃x,w'=ext w x:=by
 obtain⟨r,hr⟩:∃r,r=decide (0<=lo/\lo<=30/\(hi= -1\/(lo<=hi/\hi<=30))):=⟨_,rfl⟩;have HR:=qa hr;rw[<-hr];clear hr;go_enter func88,ntmps88;go_wp2
 all_goals(go_ret;refine⟨j0 (fun b=>Ending.returned (Value.bool b)) ?_,dP _⟩;rw[HR.o,jk];simp;omega)
theorem q1S(W:World)(a b c d a' b' c' d':Int):(binOp .neq 53 (.agg #[.int .u64 a,.int .u64 b,.int .u64 c,.int .u64 d]) (.agg #[.int .u64 a',.int .u64 b',.int .u64 c',.int .u64 d'])).run prog W=.ok (.bool (!decide (a=a'/\b=b'/\c=c'/\d=d'))) W:=by
 have h:=q38 W a b c d a' b' c' d';simp only[q3X,List.cons.injEq,and_true]at h;exact h
theorem q1T(W:World)(a b c d a' b' c' d':Int):(binOp .eql 53 (.agg #[.int .u64 a,.int .u64 b,.int .u64 c,.int .u64 d]) (.agg #[.int .u64 a',.int .u64 b',.int .u64 c',.int .u64 d'])).run prog W=.ok (.bool (decide (a=a'/\b=b'/\c=c'/\d=d'))) W:=by
 have h:=q37 W a b c d a' b' c' d';simp only[q3X,List.cons.injEq,and_true]at h;exact h
theorem q1U(W:World)(k n a b c d lo hi k' n' a' b' c' d' lo' hi':Int):(binOp .eql 98 (.agg #[.int .i64 k,.int .i64 n,.int .u64 a,.int .u64 b,.int .u64 c,.int .u64 d,.int .i64 lo,.int .i64 hi]) (.agg #[.int .i64 k',.int .i64 n',.int .u64 a',.int .u64 b',.int .u64 c',.int .u64 d',.int .i64 lo',.int .i64 hi'])).run prog W=
  .ok (.bool (decide (k=k'/\n=n'/\(a=a'/\b=b'/\c=c'/\d=d')/\lo=lo'/\hi=hi'))) W:=by
 have h:=q17 W ⟨k,n,a,b,c,d,lo,hi⟩ ⟨k',n',a',b',c',d',lo',hi'⟩;simp only[ndA,q16,List.cons.injEq,and_true]at h;exact h
theorem mN(W:World)(o:BinOp)(x y:Operand)(X Y:Array Value):(eqGuard o 53 x y (.agg X) (.agg Y)).run prog W=.ok () W:=run_eqGuard_agg W o 53 x y X Y (by kernel_rfl)
theorem xU(W:World)(o:BinOp)(x y:Operand)(X Y:Array Value):(eqGuard o 98 x y (.agg X) (.agg Y)).run prog W=.ok () W:=run_eqGuard_agg W o 98 x y X Y (by kernel_rfl)
theorem q4b{w:World}(x:Nd):Calls prog 80 #[.agg (ndA x)] w fun e w'=>e=.returned (.bool (decide (okN x)))/\∃x,w'=ext w x:=by
 have HCN:=qa (fun w=>q18 (w:=w) x.lo x.hi);obtain⟨r,hr⟩:∃r,r=decide (okN x):=⟨_,rfl⟩;have HR:=qa hr;rw[<-hr];have c1:=q1S;have c2:=q1T;have c3:=q1U;have g1:=mN;have g2:=xU;clear hr;obtain⟨k,n,a,b,c,d,lo,hi⟩:=x;unfold ndA;simp only at HCN;go_enter func80,ntmps80;by_cases h1:k=1
 ·exact ZmE0
 skip
 by_cases h2:k=2
 ·exact ZmE0
 skip
 by_cases h3:k=3
 ·exact ZmE0
 skip
 by_cases h4:k=4
 ·exact ZmE0
 skip
 by_cases h5:k=5
 ·exact ZmE0
 skip
 by_cases h6:k=6
 ·exact ZmE0
 skip
 by_cases h7:k=7
 ·exact ZmE0
 skip
 by_cases h8:k=8
 ·go_wp2_with(with_reducible go_at_call 88;refine(HCN.o _).mono ?_;rintro en w' ⟨rfl,x5,rfl⟩)
  all_goals(go_ret;refine⟨j0 (fun b=>Ending.returned (Value.bool b)) ?_,aJ ?_⟩)
  all_goals first
   |(rw[HR.o,jk];unfold okN lO yF;simp;omega)
   |(repeat' first|exact qn _ _|refine Below.setCell ?_ ?_ _|refine Below.alloc ?_ ?_ _|refine gK ?_ _|(simp;done)|(simp;omega))
 skip
 exact ZmE0
theorem qab{w:World}(x:Nd):Calls prog 36 #[.agg (ndA x)] w fun e w'=>e=.returned (.bool (decide (okN x)))/\∃x,w'=ext w x:=by
 obtain⟨r,hr⟩:∃r,r=decide (okN x):=⟨_,rfl⟩;have HR:=qa hr;rw[<-hr];have c1:=q1S;have c2:=q1T;have c3:=q1U;have g1:=mN;have g2:=xU;clear hr;obtain⟨k,n,a,b,c,d,lo,hi⟩:=x;unfold ndA;go_enter func36,ntmps36;by_cases h1:k=1
 ·exact ZmE0
 skip
 by_cases h2:k=2
 ·exact ZmE0
 skip
 by_cases h3:k=3
 ·exact ZmE0
 skip
 by_cases h4:k=4
 ·exact ZmE0
 skip
 by_cases h5:k=5
 ·exact ZmE0
 skip
 by_cases h6:k=6
 ·exact ZmE0
 skip
 by_cases h7:k=7
 ·exact ZmE0
 skip
 by_cases h8:k=8
 ·go_wp2
  all_goals(go_ret;refine⟨j0 (fun b=>Ending.returned (Value.bool b)) ?_,aJ ?_⟩)
  all_goals first
   |(rw[HR.o,jk];unfold okN lO yF;simp;omega)
   |(repeat' first|exact qn _ _|refine Below.setCell ?_ ?_ _|refine Below.alloc ?_ ?_ _|refine gK ?_ _|(simp;done)|(simp;omega))
 skip
 exact ZmE0
def m6(l:List Nd):Int:=if Chk l then 0 else 4
theorem wN(x:Nd)(c:Nat):(ndC x).getD c undef=(ndA x).getD c undef:=by unfold ndC ndA;simp[List.getD,qS]
theorem q6Y(l:List Nd)(q:Nat)(h:q<l.length):l.getD q zN=l[q]:=by simp[List.getD,h]
theorem q1V{w:World}{v:Value}{l:List Nd}(h:bE w v l):
  Calls prog 47 #[v] w fun e w'=>e=.returned (.int .i64 (m6 l))/\∃x,w'=ext w x:=by
 have qe2:=qa (fun hl=>qbP h hl 0);obtain⟨oa,cap,b,off,rfl,hd,hc⟩:=h.open;have hix:=fG hd;have HC:Hid (∀i,i<l.length->∀c,c<8->w.cell? ⟨b,off+i*8+c,none⟩=some ((ndA (l.getD i zN)).getD c undef)):=qa (fun i hi c h8=>by rw[hc i hi c h8,wN]);have HB:=qa hd.hblk;have hm:=hd.len;obtain⟨R,hR⟩:∃R,R=m6 l:=⟨_,rfl⟩;have HR:=qa hR;have HF:Hid (∀w k n a b c d lo hi,Calls prog 80 #[.agg #[.int .i64 k,.int .i64 n,.int .u64 a,.int .u64 b,.int .u64 c,.int .u64 d,.int .i64 lo,.int .i64 hi]] w fun e w'=>e=.returned (.bool (decide (okN ⟨k,n,a,b,c,d,lo,hi⟩)))/\∃x,w'=ext w x):=qa (fun w k n a b c d lo hi=>q4b ⟨k,n,a,b,c,d,lo,hi⟩);have H4:Hid (¬Chk l->R=4):=qa (fun h=>by rw[hR];unfold m6;rw[qv h]);have H0:Hid (Chk l->R=0):=qa (fun h=>by rw[hR];unfold m6;rw[qw h]);have HCH:Hid (Chk l↔(l.length<=400/\l.length≠0/\yE l.length 1 l 0=l.length/\∀x∈l,okN x)):=qa (by unfold Chk;exact Iff.rfl);rw[<-hR];clear h hd hc hR;go_enter func47,ntmps47;by_cases h0:l.length=0
 ·have HV:=qa (H4.o (fun h=>(HCH.o.1 h).2.1 h0))
  go_wp2;go_ret;exact⟨by rw[HV.o];rfl,dP _⟩
 by_cases h1:400<l.length
 ·exact ZmE5
 have hb0:((l.length:Int)==0)=false:=by simpa using h0
 have hb1:decide ((400:Int)<l.length)=false:=by simp;omega
 have HE:=qa (qe2.o (by omega));obtain⟨z,hz⟩:∃z,z=yE l.length 1 (l.drop 0) 0:=⟨_,rfl⟩;rw[<-hz]at HE;rw[List.drop_zero]at hz;rw[show((0:Nat):Int)=0 from rfl]at HE;by_cases h2:z=l.length
 ·have HZ:=qa (hz.symm.trans h2)
  clear hz;subst h2
  go_wp2_with(with_reducible go_at_call 79;refine(HE.o).mono ?_;rintro en w' ⟨rfl,x1,rfl⟩)
  go_loopg [22] (l.length) (fun gk iv wr=>∃j:Nat,iv=.int .i64 j/\j<=l.length/\(∀q,q<j->okN (l.getD q zN))/\(∃x,wr=ext w x)/\gk=l.length-j)
  case atStart=>exact⟨0,rfl,qd _,fun q hq=>absurd hq (qC q),⟨x1,rfl⟩,rfl⟩
  case round=>
   obtain⟨j,rfl,hj,hall,⟨xr,rfl⟩,rfl⟩:=hrel;have HA:=qa hall;clear hall;by_cases hlt:j<l.length
   ·have hcell:=HC.o j hlt
    have HBJ:=qa (HB.o (by omega));obtain⟨y,hy⟩:∃y,y=l.getD j zN:=⟨_,rfl⟩;rw[<-hy]at hcell;have HY:=qa hy;clear hy;obtain⟨k,n,a,b',c,d,lo,hi⟩:=y;have HCE:Hid (∀c',c'<8->(ext w xr).cell? ⟨b,off+j*8+c',none⟩=some ((#[.int .i64 k,.int .i64 n,.int .u64 a,.int .u64 b',.int .u64 c,.int .u64 d,.int .i64 lo,.int .i64 hi]:Array Value).getD c' undef)):=qa (fun c' h=>by rw[cell?_ext _ _ _ _ HBJ.o];exact hcell c' h);clear hcell;have HF1:=qa (fun w=>HF.o w k n a b' c d lo hi);by_cases hok:okN ⟨k,n,a,b',c,d,lo,hi⟩
    ·have hdo:decide (okN ⟨k,n,a,b',c,d,lo,hi⟩)=true:=by simpa using hok
     have HOK:=qa hok;clear hok;rw[hdo]at HF1
     go_wp2_with(first|(refine aH rfl 98 _ rfl b (off+j*8) 8 rfl _ _ HCE.o rfl underlying98 rfl (by kernel_rfl) ?_)|((with_reducible go_at_call 80);refine(HF1.o _).mono ?_;rintro en w' ⟨rfl,x2,rfl⟩))
     go_roundg (l.length-(j+1))
     case measure=>omega
     case rel=>
      refine⟨j+1,by go_num,by omega,fun q hq=>?_,aJ (gK (Below.alloc (aE w xr) (iP w xr) _) x2),rfl⟩;by_cases hqj:q=j
      ·rw[hqj,<-HY.o];exact HOK.o
      exact HA.o q (by omega)
    have hdo:decide (okN ⟨k,n,a,b',c,d,lo,hi⟩)=false:=by simpa using hok
    have HV:=qa (H4.o (fun h=>hok (by rw[HY.o];exact(HCH.o.1 h).2.2.2 _ (by rw[q6Y l j hlt];exact jl hlt))));clear hok;rw[hdo]at HF1
    go_wp2_with(first|(refine aH rfl 98 _ rfl b (off+j*8) 8 rfl _ _ HCE.o rfl underlying98 rfl (by kernel_rfl) ?_)|((with_reducible go_at_call 80);refine(HF1.o _).mono ?_;rintro en w' ⟨rfl,x2,rfl⟩))
    go_ret;exact⟨by rw[HV.o];rfl,aJ (gK (Below.alloc (aE w xr) (iP w xr) _) x2)⟩
   exact ZmE1
 have HV:=qa (H4.o (fun h=>h2 (hz.trans (HCH.o.1 h).2.2.1)));clear hz
 go_wp2_with(with_reducible go_at_call 79;refine(HE.o).mono ?_;rintro en w' ⟨rfl,x1,rfl⟩)
 go_ret;exact⟨by rw[HV.o];rfl,x1,rfl⟩
theorem qac{w:World}{v:Value}{l:List Nd}(h:bE w v l):
  Calls prog 11 #[v] w fun e w'=>e=.returned (.int .i64 (m6 l))/\∃x,w'=ext w x:=by
 have qe2:=qa (fun hl=>qbQ h hl 0);obtain⟨oa,cap,b,off,rfl,hd,hc⟩:=h.open;have hix:=fG hd;have HC:Hid (∀i,i<l.length->∀c,c<8->w.cell? ⟨b,off+i*8+c,none⟩=some ((ndA (l.getD i zN)).getD c undef)):=qa (fun i hi c h8=>by rw[hc i hi c h8,wN]);have HB:=qa hd.hblk;have hm:=hd.len;obtain⟨R,hR⟩:∃R,R=m6 l:=⟨_,rfl⟩;have HR:=qa hR;have HF:Hid (∀w k n a b c d lo hi,Calls prog 36 #[.agg #[.int .i64 k,.int .i64 n,.int .u64 a,.int .u64 b,.int .u64 c,.int .u64 d,.int .i64 lo,.int .i64 hi]] w fun e w'=>e=.returned (.bool (decide (okN ⟨k,n,a,b,c,d,lo,hi⟩)))/\∃x,w'=ext w x):=qa (fun w k n a b c d lo hi=>qab ⟨k,n,a,b,c,d,lo,hi⟩);have H4:Hid (¬Chk l->R=4):=qa (fun h=>by rw[hR];unfold m6;rw[qv h]);have H0:Hid (Chk l->R=0):=qa (fun h=>by rw[hR];unfold m6;rw[qw h]);have HCH:Hid (Chk l↔(l.length<=400/\l.length≠0/\yE l.length 1 l 0=l.length/\∀x∈l,okN x)):=qa (by unfold Chk;exact Iff.rfl);rw[<-hR];clear h hd hc hR;go_enter func11,ntmps11;by_cases h1:400<l.length
 ·exact ZmE5
 have hb1:decide ((400:Int)<l.length)=false:=by simp;omega
 have HE:=qa (qe2.o (by omega));obtain⟨z,hz⟩:∃z,z=yE l.length 1 (l.drop 0) 0:=⟨_,rfl⟩;rw[<-hz]at HE;rw[List.drop_zero]at hz;rw[show((0:Nat):Int)=0 from rfl]at HE;by_cases h2:z=l.length
 ·have HZ:=qa (hz.symm.trans h2)
  have h0:l.length≠0:=by
   intro h;have hl0:l=[]:=List.length_eq_zero_iff.1 h;rw[hl0]at hz h2;rw[hz]at h2;simp[yE]at h2
  have hb0:((l.length:Int)==0)=false:=by simpa using h0
  clear hz;subst h2
  go_wp2_with(with_reducible go_at_call 35;refine(HE.o).mono ?_;rintro en w' ⟨rfl,x1,rfl⟩)
  go_loopg [3] (l.length) (fun gk iv wr=>∃j:Nat,iv=.int .i64 j/\j<=l.length/\(∀q,q<j->okN (l.getD q zN))/\(∃x,wr=ext w x)/\gk=l.length-j)
  case atStart=>exact⟨0,rfl,qd _,fun q hq=>absurd hq (qC q),⟨x1,rfl⟩,rfl⟩
  case round=>
   obtain⟨j,rfl,hj,hall,⟨xr,rfl⟩,rfl⟩:=hrel;have HA:=qa hall;clear hall;by_cases hlt:j<l.length
   ·have hcell:=HC.o j hlt
    have HBJ:=qa (HB.o (by omega));obtain⟨y,hy⟩:∃y,y=l.getD j zN:=⟨_,rfl⟩;rw[<-hy]at hcell;have HY:=qa hy;clear hy;obtain⟨k,n,a,b',c,d,lo,hi⟩:=y;have HCE:Hid (∀c',c'<8->(ext w xr).cell? ⟨b,off+j*8+c',none⟩=some ((#[.int .i64 k,.int .i64 n,.int .u64 a,.int .u64 b',.int .u64 c,.int .u64 d,.int .i64 lo,.int .i64 hi]:Array Value).getD c' undef)):=qa (fun c' h=>by rw[cell?_ext _ _ _ _ HBJ.o];exact hcell c' h);clear hcell;have HF1:=qa (fun w=>HF.o w k n a b' c d lo hi);by_cases hok:okN ⟨k,n,a,b',c,d,lo,hi⟩
    ·have hdo:decide (okN ⟨k,n,a,b',c,d,lo,hi⟩)=true:=by simpa using hok
     have HOK:=qa hok;clear hok;rw[hdo]at HF1
     go_wp2_with(first|(refine aH rfl 98 _ rfl b (off+j*8) 8 rfl _ _ HCE.o rfl underlying98 rfl (by kernel_rfl) ?_)|((with_reducible go_at_call 36);refine(HF1.o _).mono ?_;rintro en w' ⟨rfl,x2,rfl⟩))
     go_roundg (l.length-(j+1))
     case measure=>omega
     case rel=>
      refine⟨j+1,by go_num,by omega,fun q hq=>?_,aJ (gK (aE w xr) x2),rfl⟩;by_cases hqj:q=j
      ·rw[hqj,<-HY.o];exact HOK.o
      exact HA.o q (by omega)
    have hdo:decide (okN ⟨k,n,a,b',c,d,lo,hi⟩)=false:=by simpa using hok
    have HV:=qa (H4.o (fun h=>hok (by rw[HY.o];exact(HCH.o.1 h).2.2.2 _ (by rw[q6Y l j hlt];exact jl hlt))));clear hok;rw[hdo]at HF1
    go_wp2_with(first|(refine aH rfl 98 _ rfl b (off+j*8) 8 rfl _ _ HCE.o rfl underlying98 rfl (by kernel_rfl) ?_)|((with_reducible go_at_call 36);refine(HF1.o _).mono ?_;rintro en w' ⟨rfl,x2,rfl⟩))
    go_ret;exact⟨by rw[HV.o];rfl,aJ (gK (aE w xr) x2)⟩
   exact ZmE1
 have HV:=qa (H4.o (fun h=>h2 (hz.trans (HCH.o.1 h).2.2.1)));clear hz
 go_wp2_with(with_reducible go_at_call 35;refine(HE.o).mono ?_;rintro en w' ⟨rfl,x1,rfl⟩)
 go_ret;exact⟨by rw[HV.o];rfl,x1,rfl⟩
def oB:Fo->Nat->List Nat
 |.nil,_=>[]
 |.cons _ k r,at_=>at_::oB r (at_+1+(bO k).length)
theorem mF:∀(f:Fo) (at_:Nat),(oB f at_).length=cnt f
 |.nil,_=>rfl
 |.cons x k r,at_=>by simp[oB,cnt,mF r]
def nz(l:List Nat):List Int:=l.map Int.ofNat
theorem zT(l:List Nat):(nz l).length=l.length:=by simp[nz]
theorem zU(l:List Nat)(j:Nat)(h:j<l.length):(nz l).getD j 0=(l.getD j 0:Nat):=by simp[nz,List.getD,h]
theorem zV(a b:List Nat):nz (a++b)=nz a++nz b:=by simp[nz]
theorem rZ(a b:List Int):ints (a++b)=ints a++ints b:=by simp[ints]
theorem zW(l:List Int):∀u∈ints l,u.oneCell'=true:=by
 intro u hu;simp only[ints,jB]at hu;obtain⟨x,-,rfl⟩:=hu
 rfl
theorem gS{α:Type}{l t:List α}{x d:α}{i:Nat}(h:l.drop i=x::t):i<l.length/\l.getD i d=x/\l.drop (i+1)=t:=by
 have hi:i<l.length:=by
  apply qi;intro hn;rw[List.drop_eq_nil_of_le (by omega)]at h;cases h
 rw[jE hi]at h;simp only[List.cons.injEq]at h;exact⟨hi,by simp[List.getD,hi,h.1],h.2⟩
theorem uE{α:Type}{l a b:List α}{i:Nat}(h:l.drop i=a++b):l.drop (i+a.length)=b:=by
 rw[<-List.drop_drop,h,List.drop_left]
theorem qbc{w:World}{v:Value}{l post:List Nd}{x:Nd}{k:Fo}{i:Nat}(h:bE w v l)(hl:l.length<=400)(hd0:l.drop i=x::(bO k++post))(hn:x.n=cnt k)(hk:wf k):
  Calls prog 37 #[v,.int .i64 i] w fun e w'=>∃u,e=.returned u/\eB w' u (nz (oB k (i+1)))/\∃x,w'=ext w x:=by
 have qe2:=qa (fun w' hb j=>qbQ (bE.up h hb (w':=w')) hl j);obtain⟨oa,cap,b,off,rfl,hd,hc⟩:=h.open;obtain⟨hi,hx,hd1⟩:=gS (d:=zN) hd0;have hix:=fun(W:World)=>fG hd W .i64 i (by omega) (by omega);have hcell:=hc i hi 1 (by decide);rw[hx]at hcell;have qdz:w.cell? ⟨b,off+i*8+1,none⟩=some (.int .i64 (cnt k:Nat)):=by rw[<-hn];exact hcell
 have hb:=hd.hblk (by omega);have hck:=r0 k
 have hlk:i+1+(bO k).length+post.length=l.length:=by
  have:=j0 List.length hd1;simp only[j4,qj]at this;omega
 simp only[qD]at hix;have HD:=qa hd1;have HK:=qa hk;clear h hd hc hcell hx hd0 hd1 hk hn;go_enter func37,ntmps37;go_wp2
 go_loopg [5,6,7] (cnt k) (fun gk ov av jv wr=>∃(j at_:Nat) (r:Fo) (ls:List Nat),jv=.int .i64 j/\av=.int .i64 at_/\at_+(bO r).length+post.length=l.length/\j+cnt r=cnt k/\l.drop at_=bO r++post/\wf r/\ls++oB r at_=oB k (i+1)/\ls.length=j/\Own wr w.heap.size 3 ov (ints (nz ls))/\Below w.heap.size w wr/\gk=cnt k-j)
 case atStart=>exact⟨0,i+1,k,[],rfl,by push_cast;rfl,by omega,by omega,HD.o,HK.o,rfl,rfl,Own.nil _ _ _,qn _ _,rfl⟩
 case round=>
  obtain⟨j,at_,r,ls,rfl,rfl,qdC,hj,hdr,hwr,hls,hll,hown,qcw,rfl⟩:=hrel;have HO:=qa hown;have HBL:=qa qcw;have HLS:=qa hls;clear hown qcw hls;have hcw:=(HBL.o.cell (p:=⟨b,off+i*8+1,none⟩) hb).trans qdz;have hbw:b<wr.heap.size:=by have:=HBL.o.size;omega
  cases r with
  |nil=>
   have hje:j=cnt k:=by simpa[cnt]using hj
   have HE:Hid (nz ls=nz (oB k (i+1))):=qa (by rw[<-HLS.o];simp[oB]);go_wp2;go_ret;refine⟨u5,rfl,?_,aJ HBL.o⟩;rw[<-HE.o];exact HO.o.sl
  |cons y ky r'=>
   simp only[cnt]at hj;simp only[bO,jm,qk]at hdr;simp only[bO,qA,qj]at qdC;obtain⟨hy1,hy2,hy3⟩:=hwr;have hend:=Y0 l.length (bO r'++post) y ky hy1 hy2 (by omega) at_;rw[<-hdr]at hend;obtain⟨-,-,qdd⟩:=gS (d:=zN) hdr;have HDR:Hid (l.drop (at_+1+(bO ky).length)=bO r'++post):=qa (uE qdd);have hee:((at_:Int)+(1+(bO ky).length))=((at_+1+(bO ky).length:Nat):Int):=by push_cast;omega
   rw[hee]at hend;have HEN:=qa hend;have HW3:=qa hy3;clear hdr qdd hend hee hy1 hy2 hy3;have hlW:=qa (aD wr (.cells #[.int .i64 (at_:Int)] 3));have HX:Hid (Sl (wr.alloc (.cells #[.int .i64 (at_:Int)] 3)) (.slice (some ⟨wr.heap.size,0,none⟩) 1 1) (ints (nz [at_]))):=qa (by simpa[ints,nz]using eK wr #[.int .i64 (at_:Int)] 3 (by simp));have HT1:=qa (HO.o.up hlW.out);have HT3:Hid ((ints (nz ls)).length+(ints (nz [at_])).length<=4294967296):=qa (by simp[nz];omega);have HT4:Hid (w.heap.size<=(wr.alloc (.cells #[.int .i64 (at_:Int)] 3)).heap.size):=qa (qc HBL.o.size hlW.out.size)
   go_wp2_with(first|(at_builtin;refine bF rfl (.tmp 19) (.tmp 21) 27 rfl w.heap.size 3 (.int .i64 0) 8 underlying27 (by kernel_rfl) rfl (by decide) u5 (ints (nz ls)) rfl HT1.o (.slice (some ⟨wr.heap.size,0,none⟩) 1 1) (ints (nz [at_])) rfl HX.o (zW _) HT3.o HT4.o ?_;intro v' w5 hown1 hg1 hk1;have HO1:=qa hown1;have HG1:=qa hg1;clear hown1 hg1 hk1;have HB5:=qa (eO (HBL.o.trans (hlW.out.mono HBL.o.size)) HT4.o HT1.o HG1.o))|((with_reducible go_at_call 35);refine(qe2.o _ HB5.o at_).mono ?_;rintro en w' ⟨rfl,x6,rfl⟩;rw[HEN.o]))
   go_roundg (cnt k-(j+1))
   case measure=>omega
   case rel=>
    refine⟨j+1,at_+1+(bO ky).length,r',ls++[at_],by go_num,rfl,by omega,by omega,HDR.o,HW3.o,?_,by simp[hll],?_,X9 HB5.o HB5.o.size x6,rfl⟩
    ·rw[<-HLS.o];simp[oB]
    rw[zV,rZ];exact HO1.o.upB (qb _) (aE w5 x6)
theorem q4c{x:Nd}(h:okN x):x.kd=1\/x.kd=2\/x.kd=3\/x.kd=4\/x.kd=5\/x.kd=6\/x.kd=7\/x.kd=8:=by
 unfold okN at h;omega
theorem q8X(N:Nat):∀(w:World) (v:Value) (l post:List Nd) (x:Nd) (k:Fo) (i:Nat),(bO k).length<N->bE w v l->l.length<=400->l.drop i=x::(bO k++post)->x.n=cnt k->wf k->okN x->mM okN k->
  Calls prog 12 #[v,.int .i64 i] w fun e w'=>∃n:Int,e=.returned (.int .i64 n)/\0<=n/\n<=100000/\∃x,w'=ext w x:=by
 induction N with
 |zero=>intro w v l post x k i h;omega
 |succ N ih=>
 intro w v l post x k i hN h hl hd0 hn hk hok hall;have HIH:=qa ih;have qhe:=qa (qbc h hl hd0 hn hk);have HAT:=qa h;obtain⟨oa,cap,b,off,rfl,hd,hc⟩:=h.open;obtain⟨hi,hx,hd1⟩:=gS (d:=zN) hd0;have hix:=fun(W:World)=>fG hd W .i64 i (by omega) (by omega);have hc0:=hc i hi 0 (by decide);have hc6:=hc i hi 6 (by decide);have hc7:=hc i hi 7 (by decide);rw[hx]at hc0 hc6 hc7;rw[jF]at hc0;have hb:=hd.hblk (by omega);have hck:=r0 k
 have hlk:i+1+(bO k).length+post.length=l.length:=by
  have:=j0 List.length hd1;simp only[j4,qj]at this;omega
 have hsz:=lL k hall;simp only[qD]at hix;have HD:=qa hd1;have HK:=qa hk;have HA:=qa hall;have HKD:=qa (q4c hok);have HTM:Hid (x.kd=8->0<=x.lo/\x.lo<=30/\ -1<=x.hi/\x.hi<=30):=qa (fun h8=>by unfold okN at hok;omega);obtain⟨xk,xn,xa,xb,xc,xd,xl,xh⟩:=x;change w.cell? ⟨b,off+i*8,none⟩=some (.int .i64 xk)at hc0;change w.cell? ⟨b,off+i*8+6,none⟩=some (.int .i64 xl)at hc6;change w.cell? ⟨b,off+i*8+7,none⟩=some (.int .i64 xh)at hc7;clear ih h hd hc hx hd0 hd1 hk hn hok hall hsz;go_enter func12,ntmps12
 go_wp2_with((with_reducible go_at_call 37);refine qhe.o.mono ?_;rintro en w1 ⟨u,rfl,hu,x1,rfl⟩;(have HB1:=qa (aE w x1));obtain⟨ok,ck,bk,fk,rfl,hdk,qg1⟩:=hu.open;(rw[show(nz (oB k (i+1))).length=cnt k by rw[zT,mF]]at hdk qg1⊢);(generalize ext w x1=w1 at*))
 have qd5:=aT (P:=prog) 27 3 underlying27 (by kernel_rfl) hdk;have HCK:=qa qg1;have HBK:=qa hdk.hblk;have hw1:=HB1.o.size;clear hu hdk qg1
 go_loopg [6,7] (cnt k) (fun gk sv jv wr=>∃(j at_:Nat) (r:Fo) (s:Int),jv=.int .i64 j/\sv=.int .i64 s/\at_+(bO r).length+post.length=l.length/\j+cnt r=cnt k/\l.drop at_=bO r++post/\wf r/\mM okN r/\(oB k (i+1)).drop j=oB r at_/\1<=s/\s<=1+100000*j/\(bO r).length<=(bO k).length/\Below w1.heap.size w1 wr/\gk=cnt k-j)
 case atStart=>exact⟨0,i+1,k,1,rfl,rfl,by omega,by omega,HD.o,HK.o,HA.o,rfl,by omega,by omega,qb _,qn _ _,rfl⟩
 case round=>
  obtain⟨j,at_,r,s,rfl,rfl,qdC,hj,hdr,hwr,har,hls,hs0,hss,hrk,qcw,rfl⟩:=hrel;have HBL:=qa qcw;have HBW:=qa (HB1.o.trans (qcw.mono hw1));clear qcw;cases r with
  |nil=>
   have hje:j=cnt k:=by simpa[cnt]using hj
   subst hje;clear hdr hwr har hls;have h0:=(HBW.o.cell (p:=⟨b,off+i*8,none⟩) hb).trans hc0;have h6:=(HBW.o.cell (p:=⟨b,off+i*8+6,none⟩) hb).trans hc6;have h7:=(HBW.o.cell (p:=⟨b,off+i*8+7,none⟩) hb).trans hc7;have hbw:b<wr.heap.size:=by have:=HBW.o.size;omega
   clear hc0 hc6 hc7;have qdk:=HTM.o;have hkd:=HKD.o
   try simp only at qdk
   try simp only at hkd
   clear HTM HKD;by_cases h8:xk=8
   ·subst h8
    have ht:=qdk rfl;clear qdk hkd;have fin:∀t:Int,0<=t->t<=31->0<=s*t/\s*t<=40000001*31:=fun t h0 h1=>⟨Int.mul_nonneg (by omega) h0,Int.le_trans (Int.mul_le_mul_of_nonneg_left h1 (by omega)) (by omega)⟩;obtain⟨m,hmx,hm0,hm1⟩:∃m,(if xl<xh then xh else xl)=m/\0<=m/\m<=30:=⟨_,rfl,by split<;>omega,by split<;>omega⟩;have ft:=fin (1+m) (by omega) (by omega);obtain⟨q,hq⟩:∃q,q=s*(1+m):=⟨_,rfl⟩;rw[<-hq]at ft;have HMX:=qa hmx;have HWR:Hid (wrap64 (s*(1+m))=q):=qa (by rw[<-hq];exact IntWalk.wrap64_in q ⟨by omega,by omega⟩);clear fin hmx hq;go_wp2
    go_quiet (fail)
    rw[HMX.o,HWR.o];go_wp2
    all_goals(go_ret;exact⟨_,rfl,by omega,by omega,aJ (lY HBW.o _)⟩)
   clear qdk hkd;go_wp2
   all_goals(go_ret;first|exact⟨_,rfl,by omega,by omega,aJ HBW.o⟩|exact⟨_,rfl,by omega,by omega,aJ (lY HBW.o _)⟩)
  |cons y ky r'=>
   simp only[cnt]at hj;simp only[bO,jm,qk]at hdr;simp only[bO,qA,qj]at qdC hrk;obtain⟨hy1,hy2,hy3⟩:=hwr;obtain⟨ha1,ha2,ha3⟩:=har;simp only[oB]at hls;obtain⟨hjl,hja,qi8⟩:=gS (d:=0) hls;rw[mF]at hjl;have hcj:=HCK.o j hjl;rw[zU _ _ (by rw[mF];exact hjl),hja]at hcj;have hbk:=HBK.o (by omega);have qmn:=(HBL.o.cell (p:=⟨bk,fk+j,none⟩) hbk).trans hcj;have qmu:bk<wr.heap.size:=by have:=HBL.o.size;omega
   obtain⟨-,-,qdd⟩:=gS (d:=zN) hdr;have HDR:Hid (l.drop (at_+1+(bO ky).length)=bO r'++post):=qa (uE qdd);have HCL:=qa (HIH.o wr _ l (bO r'++post) y ky at_ (by omega) (HAT.o.up HBW.o) hl hdr hy1 hy2 ha1 ha2);have HW3:=qa hy3;have HA3:=qa ha3;have HLS:=qa qi8;clear hdr qdd hy1 hy2 hy3 ha1 ha2 ha3 hls qi8 hja hcj
   go_wp2_with((with_reducible go_at_call 12);refine HCL.o.mono ?_;rintro en w' ⟨t,rfl,ht0,ht1,x6,rfl⟩)
   go_roundg (cnt k-(j+1))
   case measure=>omega
   case rel=>
    exact⟨j+1,at_+1+(bO ky).length,r',s+t,by go_num,by go_num,by omega,by omega,HDR.o,HW3.o,HA3.o,HLS.o,by omega,by omega,by omega,X9 HBL.o HBL.o.size x6,rfl⟩
theorem q4d{w:World}(k n a b c d lo hi:Int):Calls prog 82 #[.agg #[.int .i64 k,.int .i64 n,.int .u64 a,.int .u64 b,.int .u64 c,.int .u64 d,.int .i64 lo,.int .i64 hi]] w fun e w'=>e=.returned (.int .i64 (fA ⟨k,n,a,b,c,d,lo,hi⟩))/\∃x,w'=ext w x:=by
 obtain⟨R,hR⟩:∃R,R=fA ⟨k,n,a,b,c,d,lo,hi⟩:=⟨_,rfl⟩;have HR:=qa hR;rw[<-hR];clear hR;go_enter func82,ntmps82;by_cases h:hi<0
 all_goals
  go_wp2
  all_goals(go_ret;refine⟨j0 (fun b=>Ending.returned (Value.int .i64 b)) ?_,aJ ?_⟩)
  all_goals first
   |(rw[HR.o];simp only[fA];omega)
   |(repeat' first|exact qn _ _|refine Below.alloc ?_ ?_ _|(simp;done)|(simp;omega))
theorem bE.high{w:World}{v:Value}{l:List Nd}(h:bE w v l)(n:Nat)(hn:n<=l.length):
  ∃u,(∀W:World,(Instr.sliceAt 42 v (some (.int .i64 (n:Int))) none none).run prog W=.ok u W)/\bE w u (l.drop n):=by
 obtain⟨u,h1,h2⟩:=SlK.high (P:=prog) h 42 98 underlying42 (by kernel_rfl) n (by simpa using hn);exact⟨u,h1,by unfold bE;rw[List.map_drop];exact h2⟩
theorem bE.mid{w:World}{v:Value}{l:List Nd}(h:bE w v l)(n m:Nat)(hn:n<=m)(hm:m<=l.length):
  ∃u,(∀W:World,(Instr.sliceAt 42 v (some (.int .i64 (n:Int))) (some (.int .i64 (m:Int))) none).run prog W=.ok u W)/\bE w u ((l.drop n).take (m-n)):=by
 obtain⟨u,h1,h2⟩:=SlK.mid (P:=prog) h 42 98 underlying42 (by kernel_rfl) n m hn (by simpa using hm);exact⟨u,h1,by unfold bE;rw[List.map_take,List.map_drop];exact h2⟩
theorem qbd(N:Nat):∀(w:World) (v:Value) (l post:List Nd) (x:Nd) (k:Fo),(bO k).length<N->bE w v l->l.length<=400->l=x::(bO k++post)->x.n=cnt k->wf k->okN x->mM okN k->
  Calls prog 81 #[v] w fun e w'=>e=.returned (.tuple #[.int .i64 (sR x (iF k)),.int .i64 ((1+(bO k).length:Nat):Int)])/\∃x,w'=ext w x:=by
 induction N with
 |zero=>intro w v l post x k h;omega
 |succ N ih=>
 intro w v l post x k hN h hl hd0 hn hk hok hall;have HIH:=qa ih;have HAT:=qa h;obtain⟨oa,cap,b,off,rfl,hd,hc⟩:=h.open;obtain⟨hi,hx,hd1⟩:=gS (d:=zN) (i:=0) (l:=l) hd0
 have hix:∀W:World,(Instr.indexAt 42 (.slice oa l.length cap) (.int .i64 0)).run prog W=.ok (.pointer (some ⟨b,off,none⟩)) W:=fun(W:World)=>by
  have:=fG hd W .i64 0 (by omega) (by omega);simpa using this
 have hb:=hd.hblk (by omega);have hck:=r0 k
 have hlk:1+(bO k).length+post.length=l.length:=by
  have:=j0 List.length hd1;simp only[j4,qj]at this;omega
 have hsz:=lL k hall;have hc0:=hc 0 hi;rw[hx]at hc0;have HD:=qa hd1;have HK:=qa hk;have HA:=qa hall;have HKD:=qa (q4c hok);have HTM:=qa (uB hok);obtain⟨R,hR⟩:∃R,R=sR x (iF k):=⟨_,rfl⟩;have HR:=qa hR;obtain⟨T,hT⟩:∃T:Nat,T=1+(bO k).length:=⟨_,rfl⟩;rw[<-hR,<-hT];obtain⟨xk,xn,xa,xb,xc,xd,xl,xh⟩:=x;change xn=_ at hn;subst hn
 have HCE:Hid (∀c',c'<8->w.cell? ⟨b,off+c',none⟩=some ((#[.int .i64 xk,.int .i64 (cnt k),.int .u64 xa,.int .u64 xb,.int .u64 xc,.int .u64 xd,.int .i64 xl,.int .i64 xh]:Array Value).getD c' undef)):=qa (fun c' h=>by
  have:=hc0 c' h;rw[wN,Nat.zero_mul,jF]at this;exact this)
 have HTT:=qa (fun w=>q4d (w:=w) xk (cnt k) xa xb xc xd xl xh);clear ih h hd hc hx hd0 hd1 hk hR hok hall hc0;go_enter func81,ntmps81
 go_wp2_with(refine aH rfl 98 _ rfl b off 8 rfl _ _ HCE.o rfl underlying98 rfl (by kernel_rfl) ?_)
 go_loopg [5,6,14] (cnt k) (fun gk sv av jv wr=>∃(j at_:Nat) (r:Fo) (s:Int),jv=.int .i64 j/\av=.int .i64 at_/\sv=.int .i64 s/\at_+(bO r).length+post.length=l.length/\j+cnt r=cnt k/\l.drop at_=bO r++post/\wf r/\mM okN r/\0<=s/\s+iF r=iF k/\(bO r).length<=(bO k).length/\Below w.heap.size w wr/\w.heap.size<wr.heap.size/\(∀c',c'<8->wr.cell? ⟨w.heap.size,c',none⟩=some ((#[.int .i64 xk,.int .i64 (cnt k),.int .u64 xa,.int .u64 xb,.int .u64 xc,.int .u64 xd,.int .i64 xl,.int .i64 xh]:Array Value).getD c' undef))/\gk=cnt k-j)
 case atStart=>exact⟨0,1,k,0,rfl,rfl,rfl,by omega,by omega,HD.o,HK.o,HA.o,by omega,by omega,qb _,aD _ _,by simp,fun c' h=>by rw[World.cell?_alloc_new];simp[qS,h],rfl⟩
 case round=>
  obtain⟨j,at_,r,s,rfl,rfl,rfl,qdC,hj,hdr,hwr,har,hs0,hss,hrk,qcw,hbx,hcx,rfl⟩:=hrel;have HBW:=qa qcw;have HCX:=qa hcx;clear qcw hcx;cases r with
  |nil=>
   have hje:j=cnt k:=by simpa[cnt]using hj
   have hse:s=iF k:=by simpa[iF]using hss
   have hae:at_=1+(bO k).length:=by simp only[bO,qO]at qdC;omega
   rw[<-hse]at HR;have hsB:s<=400000000:=by omega
   rw[<-hT]at hae;subst hae;subst hje;clear hss hdr hwr har hse hT;have h0:=HCX.o 0 (by decide);change wr.cell? ⟨w.heap.size,0,none⟩=some (.int .i64 xk)at h0;have qdk:=HTM.o;have hkd:=HKD.o
   try simp only at qdk
   try simp only at hkd
   clear HTM HKD;have fin:∀t:Int,0<=t->t<=30->0<=t*s/\t*s<=30*400000000:=fun t h0 h1=>⟨Int.mul_nonneg h0 hs0,Int.mul_le_mul h1 (by omega) hs0 (by omega)⟩;rcases hkd with h|h|h|h|h|h|h|h
   all_goals subst h
   case inr.inr.inr.inr.inr.inr.inr=>
    have ht:=qdk rfl;have ft:=fin _ ht.1 ht.2;have HR3:Hid (R=min (2+fA ⟨8,cnt k,xa,xb,xc,xd,xl,xh⟩*s) 1000000):=qa (by rw[HR.o];simp[sR]);generalize fA ⟨8,cnt k,xa,xb,xc,xd,xl,xh⟩=t at*;clear qdk fin;have qlj:Hid (∀c',c'<8->wr.cell? ⟨w.heap.size,0+c',none⟩=some ((#[.int .i64 8,.int .i64 (cnt k),.int .u64 xa,.int .u64 xb,.int .u64 xc,.int .u64 xd,.int .i64 xl,.int .i64 xh]:Array Value).getD c' undef)):=qa (fun c' h=>by rw[qI];exact HCX.o c' h)
    go_wp2_with(first|(refine aH rfl 98 _ rfl w.heap.size 0 8 rfl _ _ qlj.o rfl underlying98 rfl (by kernel_rfl) ?_)|((with_reducible go_at_call 82);refine(HTT.o _).mono ?_;rintro en w' ⟨rfl,x6,rfl⟩))
    all_goals(go_ret2;refine⟨j0 (fun b=>Ending.returned (Value.tuple #[Value.int .i64 b,Value.int .i64 at_])) ?_,aJ (gK HBW.o x6)⟩;rw[HR3.o];omega)
   all_goals
    clear qdk fin;go_wp2
    all_goals(go_ret2;refine⟨j0 (fun b=>Ending.returned (Value.tuple #[Value.int .i64 b,Value.int .i64 at_])) ?_,aJ HBW.o⟩;rw[HR.o];first|(simp[sR];done)|(simp[sR];omega))
  |cons y ky r'=>
   simp only[cnt]at hj;simp only[bO,jm,qk]at hdr;simp only[bO,qA,qj]at qdC hrk;obtain⟨hy1,hy2,hy3⟩:=hwr;obtain⟨ha1,ha2,ha3⟩:=har;obtain⟨-,-,qdd⟩:=gS (d:=zN) hdr;have HDR:Hid (l.drop (at_+1+(bO ky).length)=bO r'++post):=qa (uE qdd);obtain⟨u,hsl,hnu⟩:=(HAT.o.up HBW.o).high at_ (by omega);have HCL:=qa (HIH.o wr u _ (bO r'++post) y ky (by omega) hnu (by rw[j4];omega) hdr hy1 hy2 ha1 ha2);have hs1:=(lP ha1 (lL ky ha2).1);have hs2:=lL r' ha3;simp only[iF]at hss;generalize sR y (iF ky)=t at*;have HW3:=qa hy3;have HA3:=qa ha3;clear hdr qdd hy1 hy2 hy3 ha1 ha2 ha3 hnu
   go_wp2_with((with_reducible go_at_call 81);refine HCL.o.mono ?_;rintro en w' ⟨rfl,x6,rfl⟩)
   go_roundg (cnt k-(j+1))
   case measure=>omega
   case rel=>
    exact⟨j+1,at_+1+(bO ky).length,r',s+t,by go_num,by go_num,by go_num,by omega,by omega,HDR.o,HW3.o,HA3.o,by omega,by omega,by omega,gK HBW.o x6,qe hbx (iP _ _),fun c' h=>by rw[cell?_ext _ _ _ _ hbx];exact HCX.o c' h,rfl⟩
theorem r6{l:List Nd}(h:Chk l):∃x k,l=x::(bO k++[])/\x.n=cnt k/\wf k/\okN x/\mM okN k/\l.length<=400/\(bO k).length<400/\kK l=sR x (iF k):=by
 obtain⟨x,k,h1,h2,h3,h4,h5,h6⟩:=oV h;refine⟨x,k,by simpa using h1,h2,h3,h4,h5,h.1,h6,?_⟩;unfold kK;rw[qw h,h1,fN x k h2 h3];simp[iF]
theorem oZ{l:List Nd}(h:Chk l):m6 l=0:=by unfold m6;rw[qw h]
theorem p3{l:List Nd}(h:¬Chk l):m6 l=4:=by unfold m6;rw[qv h]
theorem q4e{l:List Nd}(h:¬Chk l):kK l=0:=by unfold kK;rw[qv h]
theorem q6Z{w:World}{v:Value}{l:List Nd}(h:bE w v l):
  Calls prog 51 #[v] w fun e w'=>e=.returned (.int .i64 (kK l))/\∃x,w'=ext w x:=by
 have HCH:=qa (q1V h);obtain⟨R,hR⟩:∃R,R=kK l:=⟨_,rfl⟩;rw[<-hR];by_cases hc:Chk l
 ·rw[oZ hc]at HCH
  obtain⟨x,k,h1,h2,h3,h4,h5,h6,h7,h8⟩:=r6 hc;have HS:=qa (fun x1=>qbd 400 (ext w x1) v l [] x k h7 (h.up (aE w x1)) h6 h1 h2 h3 h4 h5);rw[<-h8,<-hR]at HS;clear h hc h1 h2 h3 h4 h5 h6 h7 h8 hR;go_enter func51,ntmps51
  go_wp2_with(first|((with_reducible go_at_call 47);refine HCH.o.mono ?_;rintro en w' ⟨rfl,x1,rfl⟩)|((with_reducible go_at_call 81);refine(HS.o x1).mono ?_;rintro en w' ⟨rfl,x2,rfl⟩))
  go_ret;exact⟨rfl,q44 w x1 x2⟩
 rw[p3 hc]at HCH;rw[q4e hc]at hR;have HR:=qa hR;clear h hc hR;go_enter func51,ntmps51
 go_wp2_with((with_reducible go_at_call 47);refine HCH.o.mono ?_;rintro en w' ⟨rfl,x1,rfl⟩)
 go_ret;exact⟨by rw[HR.o];rfl,x1,rfl⟩
def gC(w:World)(v:Value)(ll:List (List Nd)):Prop:=
 ∃vs,Sl w v vs/\vs.length=ll.length/\∀i,i<ll.length->bE w (vs.getD i undef) (ll.getD i [])
theorem gC.up{w w':World}{v:Value}{ll:List (List Nd)}(h:gC w v ll)(hb:Below w.heap.size w w'):gC w' v ll:=by
 obtain⟨vs,h1,h2,h3⟩:=h;exact⟨vs,h1.up hb,h2,fun i hi=>(h3 i hi).up hb⟩
theorem gC.open{w:World}{v:Value}{ll:List (List Nd)}(h:gC w v ll):
  ∃oa cap b off,v=.slice oa ll.length cap/\Hd w oa ll.length cap b off/\∀i,i<ll.length->∃u,w.cell? ⟨b,off+i,none⟩=some u/\bE w u (ll.getD i []):=by
 obtain⟨vs,⟨oa,cap,b,off,rfl,hd,hc⟩,h2,h3⟩:=h;rw[h2]at hd hc⊢;exact⟨oa,cap,b,off,rfl,hd,fun i hi=>⟨_,hc i hi,h3 i hi⟩⟩
theorem fY{w:World}{oa:Option Addr}{b off len cap:Nat}(h:Hd w oa len cap b off):
  ∀(W:World) (kd:IntKind) (i:Int),0<=i->i<len->(Instr.indexAt 22 (.slice oa len cap) (.int kd i)).run prog W=.ok (.pointer (some ⟨b,off+i.toNat,none⟩)) W:=
 aT (P:=prog) 22 42 underlying22 (by kernel_rfl) h
noncomputable def Q9(ll:List (List Nd))(j:Nat):Int:=((ll.take j).map kK).sum
theorem zX(ll:List (List Nd))(j:Nat)(h:j<ll.length):Q9 ll (j+1)=Q9 ll j+kK (ll.getD j []):=by
 unfold Q9;rw[qM h,qH,List.sum_append];simp[List.getD,h]
theorem q1W(ll:List (List Nd)):Q9 ll ll.length=(ll.map kK).sum:=by unfold Q9;rw[j3]
theorem qc3{w:World}{v:Value}{ll:List (List Nd)}(h:gC w v ll):
  Calls prog 23 #[v] w fun e w'=>e=.returned (.int .i64 (uC ll))/\∃x,w'=ext w x:=by
 obtain⟨oa,cap,b,off,rfl,hd,hc⟩:=h.open;have hix:=fY hd;have hm:=hd.len;have HB:=qa hd.hblk;have HC:=qa hc;obtain⟨R,hR⟩:∃R,R=uC ll:=⟨_,rfl⟩;have HSS:=qa (zX ll);have HSA:=qa (q1W ll);rw[<-hR];unfold uC at hR;by_cases h0:ll.length=0
 ·rw[qw h0]at hR
  exact ZmE6
 rw[qv h0]at hR;by_cases h1:32<ll.length
 ·rw[qw h1]at hR
  exact ZmE6
 rw[qv h1]at hR;have hb0:((ll.length:Int)==0)=false:=by simpa using h0
 have hb1:decide ((32:Int)<ll.length)=false:=by simp;omega
 have HR:=qa hR;clear hR h hd hc;go_enter func23,ntmps23;go_wp2
 go_loopg [3,16] (ll.length) (fun gk nv jv wr=>∃(j:Nat),jv=.int .i64 j/\nv=.int .i64 (1+Q9 ll j)/\0<=Q9 ll j/\Q9 ll j<=1000000*j/\j<=ll.length/\(∀q,q<j->Chk (ll.getD q []))/\Below w.heap.size w wr/\gk=ll.length-j)
 case atStart=>exact⟨0,rfl,rfl,by simp[Q9],by simp[Q9],qd _,fun q hq=>absurd hq (qC q),qn _ _,rfl⟩
 case round=>
  obtain⟨j,rfl,rfl,hs0,hs1,hj,hall,qcw,rfl⟩:=hrel;have HA:=qa hall;have HBW:=qa qcw;clear hall qcw;by_cases hlt:j<ll.length
  ·obtain⟨u,hcu,hnu⟩:=HC.o j hlt
   have hb:=HB.o (by omega);have hcw:=(HBW.o.cell (p:=⟨b,off+j,none⟩) hb).trans hcu;have hbw:b<wr.heap.size:=by have:=HBW.o.size;omega
   have HN:=qa (hnu.up HBW.o);have HCH:=qa (q1V HN.o);have hsl:=q1P (ll.getD j []);have hss:=HSS.o j hlt;generalize Q9 ll j=s at*;clear hcu hnu;by_cases hck:Chk (ll.getD j [])
   ·rw[oZ hck]at HCH
    have HK:=qa hck;have HSZ:=qa (fun x1=>q6Z (HN.o.up (aE wr x1)));generalize kK (ll.getD j [])=t at*;have HSN:=qa hss;clear hck hss
    go_wp2_with(first|((with_reducible go_at_call 47);refine HCH.o.mono ?_;rintro en w' ⟨rfl,x1,rfl⟩)|((with_reducible go_at_call 51);refine(HSZ.o x1).mono ?_;rintro en w' ⟨rfl,x2,rfl⟩))
    go_roundg (ll.length-(j+1))
    case measure=>omega
    case rel=>
     refine⟨j+1,by go_num,?_,?_,?_,by omega,fun q hq=>?_,X9 (gK HBW.o x1) (qc HBW.o.size (iP _ _)) x2,rfl⟩
     ·rw[HSN.o];go_num
     ·rw[HSN.o];omega
     ·rw[HSN.o];omega
     by_cases hqj:q=j
     ·rw[hqj];exact HK.o
     exact HA.o q (by omega)
   rw[p3 hck]at HCH;have HV:Hid (R=4):=qa (by rw[HR.o,qw (fun h=>hck (h _ (by simp[List.getD,hlt])))]);clear hck
   go_wp2_with((with_reducible go_at_call 47);refine HCH.o.mono ?_;rintro en w' ⟨rfl,x1,rfl⟩)
   go_ret;exact⟨by rw[HV.o];rfl,aJ (gK HBW.o x1)⟩
  have hje:j=ll.length:=by omega
  subst hje
  have qdG:Hid (∀l∈ll,Chk l):=qa (fun l hl=>by
   obtain⟨q,hq,rfl⟩:=jj hl;have:=HA.o q hq;simpa[List.getD,hq]using this)
  have qet:=HSA.o;generalize Q9 ll ll.length=s at*;by_cases h3:3000<1+s
  ·have HV:Hid (R=3):=qa (by rw[HR.o,qv (fun h=>h qdG.o),<-qet,qw h3])
   clear qet;go_wp2;go_ret;exact⟨by rw[HV.o];rfl,aJ HBW.o⟩
  have HV:Hid (R=0):=qa (by rw[HR.o,qv (fun h=>h qdG.o),<-qet,qv h3]);clear qet;go_wp2;go_ret;exact⟨by rw[HV.o];rfl,aJ HBW.o⟩
theorem qc4{w:World}{v:Value}{ll:List (List Nd)}(h:gC w v ll)(m:Int):
  Calls prog 4 #[v,.int .i64 m] w fun e w'=>(∃b:Bool,e=.returned (.bool b))/\∃x,w'=ext w x:=by
 obtain⟨oa,cap,b,off,rfl,hd,hc⟩:=h.open;have hix:=fY hd;have hm:=hd.len;have HB:=qa hd.hblk;have HC:=qa hc;by_cases h1:40<ll.length
 ·clear h hd hc
  go_enter func4,ntmps4;go_wp2;go_ret;exact⟨⟨_,rfl⟩,dP _⟩
 clear h hd hc;have hb1:decide ((40:Int)<ll.length)=false:=by simp;omega
 go_enter func4,ntmps4;go_wp2
 go_loopg [5,6] (ll.length) (fun gk nv jv wr=>∃(j:Nat) (s:Int),jv=.int .i64 j/\nv=.int .i64 s/\0<=s/\s<=100000*j/\j<=ll.length/\Below w.heap.size w wr/\gk=ll.length-j)
 case atStart=>exact⟨0,0,rfl,rfl,by omega,by omega,qd _,qn _ _,rfl⟩
 case round=>
  obtain⟨j,s,rfl,rfl,hs0,hs1,hj,qcw,rfl⟩:=hrel;have HBW:=qa qcw;clear qcw;by_cases hlt:j<ll.length
  ·obtain⟨u,hcu,hnu⟩:=HC.o j hlt
   have hb:=HB.o (by omega);have hcw:=(HBW.o.cell (p:=⟨b,off+j,none⟩) hb).trans hcu;have hbw:b<wr.heap.size:=by have:=HBW.o.size;omega
   have HN:=qa (hnu.up HBW.o);have HCH:=qa (qac HN.o);obtain⟨o2,c2,b2,f2,rfl,hd2,-⟩:=hnu.open;have hm2:=hd2.len;clear hcu hnu hd2;by_cases h5:500<(ll.getD j []).length
   ·generalize (ll.getD j []).length=n5 at*
    go_wp2;go_ret;exact⟨⟨_,rfl⟩,aJ HBW.o⟩
   by_cases hck:Chk (ll.getD j [])
   ·rw[oZ hck]at HCH
    obtain⟨x,k,c1,c2',c3,c4,c5,c6,c7,-⟩:=r6 hck;have HSZ:=qa (fun x1=>q8X 400 (ext wr x1) _ _ [] x k 0 c7 (HN.o.up (aE wr x1)) c6 c1 c2' c3 c4 c5);rw[show((0:Nat):Int)=0 from rfl]at HSZ;clear hck c1 c2' c3 c4 c5 c6 c7 HN;generalize (ll.getD j []).length=n5 at*
    go_wp2_with(first|((with_reducible go_at_call 11);refine HCH.o.mono ?_;rintro en w' ⟨rfl,x1,rfl⟩;have qg4:b<(ext wr x1).heap.size:=qe hbw (iP _ _))|((with_reducible go_at_call 12);refine(HSZ.o x1).mono ?_;rintro en w' ⟨n,rfl,hn0,hn1,x2,rfl⟩))
    go_roundg (ll.length-(j+1))
    case measure=>omega
    case rel=>
     exact⟨j+1,s+n,by go_num,by go_num,by omega,by omega,by omega,X9 (gK HBW.o x1) (qc HBW.o.size (iP _ _)) x2,rfl⟩
   rw[p3 hck]at HCH;clear hck HN;generalize (ll.getD j []).length=n5 at*
   go_wp2_with((with_reducible go_at_call 11);refine HCH.o.mono ?_;rintro en w' ⟨rfl,x1,rfl⟩)
   go_roundg (ll.length-(j+1))
   case measure=>omega
   case rel=>
    exact⟨j+1,s,by go_num,rfl,by omega,by omega,by omega,gK HBW.o x1,rfl⟩
  go_wp2;go_ret;exact⟨⟨_,rfl⟩,aJ HBW.o⟩
end Go.Cm
namespace Go.Cm
def zY(f:Fo)(s:St):Pc×St:=match f with
 |.cons x k _=>eD x (fun s=>gP k s) s
 |.nil=>(zP,s)
def R0(f:Fo)(i:Nat)(s:St):St:=
 let y:=zY f s
 let t:=bM 0 y.1.f y.2
 ⟨t.e,t.r.set y.1.l (i:Int)⟩
def mkF(fs:List Fo):Nat->St
 |0=>dR ⟨[],[]⟩
 |i+1=>R0 (fs.getD i .nil) i (mkF fs i)
noncomputable def mkS(ll:List (List Nd))(i:Nat):St:=mkF (ll.map kD) i
theorem pA(ll:List (List Nd))(i:Nat)(h:i<ll.length):(ll.map kD).getD i .nil=kD (ll.getD i []):=by simp[List.getD,h]
structure qc5(s:St)(n:Int)(i:Nat):Prop where
 len:(s.e.length:Int)=n
 rlen:(s.r.length:Int)=n
 tot:(tot s.e:Int)<=2*n+i
theorem R1(ll:List (List Nd))(i:Nat)(_hi:i<=ll.length):0<=Q9 ll i/\Q9 ll i<=(ll.map kK).sum:=by
 have key:∀l:List (List Nd),0<=(l.map kK).sum:=fun l=>by
  induction l with
  |nil=>simp
  |cons a l ih=>simp only[qJ,List.sum_cons];have:=(q1P a).1;omega
 refine⟨key _,?_⟩;have h:ll=ll.take i++ll.drop i:=(j8 i ll).symm
 have h2:(ll.map kK).sum=((ll.take i).map kK).sum+((ll.drop i).map kK).sum:=by
  rw[<-List.sum_append,<-qH,j8]
 have:=key (ll.drop i);unfold Q9;omega
theorem q8Y(ll:List (List Nd))(hc:∀l∈ll,Chk l)(hs:1+(ll.map kK).sum<=3000):∀i,i<=ll.length->qc5 (mkS ll i) (1+Q9 ll i) i
 |0,_=>⟨by simp[mkS,mkF,dR,Q9],by simp[mkS,mkF,dR,Q9],by simp[mkS,mkF,dR,Q9,tot]⟩
 |i+1,h=>by
  have ih:=q8Y ll hc hs i (by omega);have hl:=hc (ll.getD i []) (by simp[List.getD,show i<ll.length by omega]);obtain⟨x,k,h1,h2,h3,h4,h5,h6,h7,h8⟩:=r6 hl;rw[j7]at h1;have hss:=zX ll i (by omega);have hsl:=(R1 ll (i+1) h).2;have hs0:=(R1 ll i (by omega)).1;rw[h8]at hss;have hz:=lP h4 (lL k h5).1
  have hu:sR x (iF k)=d5 x (usz k):=by
   have:=q8j (f:=.cons x k .nil) ⟨h4,h5,trivial⟩ (by simp only[iF];omega);simpa[iF,usz]using this
  have hok:=oX x (fun s=>gP k s) (usz k) (cnt k) h4 h2 (nC k h3 h5) (mkS ll i);have a1:=hok.len;have a2:=hok.rlen;have a4:=hok.tot;simp only at a1 a2 a4
  have e:mkS ll (i+1)=R0 (.cons x k .nil) i (mkS ll i):=by
   show R0 _ _ _=_;rw[pA ll i (by omega),h1,fN x k h2 h3]
   rfl
  rw[e];have b1:=ih.len;have b2:=ih.rlen;have b3:=ih.tot;have hf:=eE 0 (eD x (fun s=>gP k s) (mkS ll i)).1.f (eD x (fun s=>gP k s) (mkS ll i)).2;refine⟨?_,?_,?_⟩
  ·simp only[R0,zY,eQ];omega
  ·simp only[R0,zY,q48,jb];omega
  simp only[R0,zY];push_cast;omega
end Go.Cm
namespace Go.Cm
def pB(x:Ed)(c:Nat):Bool:=(if c<64 then x.a else if c<128 then x.b else if c<192 then x.c else x.d)/2^(c%64)%2==1
abbrev Row(e:List (List Ed))(a:Nat):List Ed:=e.getD a []
inductive gD(e:List (List Ed))(s:Nat):List Nat->Nat->Prop
 |nil:gD e s [] s
 |free {w:List Nat} {a b:Nat} {x:Ed}:gD e s w a->x∈Row e a->x.free=true->x.tgt=b->gD e s w b
 |byte {w:List Nat} {a b c:Nat} {x:Ed}:gD e s w a->x∈Row e a->x.free=false->pB x c=true->x.tgt=b->gD e s (w++[c]) b
theorem gD.trans{e:List (List Ed)}{s a b:Nat}{w v:List Nat}(h:gD e s w a)(k:gD e a v b):gD e s (w++v) b:=by
 induction k with
 |nil=>simpa using h
 |free _ h1 h2 h3 ih=>exact .free ih h1 h2 h3
 |byte _ h1 h2 h3 h4 ih=>rw[<-qk];exact .byte ih h1 h2 h3 h4
theorem gD.one{e:List (List Ed)}{s b:Nat}{x:Ed}(h:x∈Row e s)(hf:x.free=true)(ht:x.tgt=b):gD e s [] b:=.free .nil h hf ht
theorem gD.sub{e e':List (List Ed)}{D:Nat->Prop}(h1:∀a x,D a->x∈Row e a->∃b:Nat,x.tgt=b/\D b)(h2:∀a x,D a->x∈Row e a->x∈Row e' a){s a:Nat}{w:List Nat}(hs:D s)(h:gD e s w a):D a/\gD e' s w a:=by
 induction h with
 |nil=>exact⟨hs,.nil⟩
 |free _ k1 k2 k3 ih=>
  obtain⟨b,hb,hd⟩:=h1 _ _ ih.1 k1;obtain rfl:=jr (hb.symm.trans k3);exact⟨hd,.free ih.2 (h2 _ _ ih.1 k1) k2 k3⟩
 |byte _ k1 k2 k3 k4 ih=>
  obtain⟨b,hb,hd⟩:=h1 _ _ ih.1 k1;obtain rfl:=jr (hb.symm.trans k4);exact⟨hd,.byte ih.2 (h2 _ _ ih.1 k1) k2 k3 k4⟩
abbrev Lng:=List Nat->Prop
def eps:Lng:=fun w=>w=[]
def cat(A B:Lng):Lng:=fun w=>∃u v,w=u++v/\A u/\B v
def uF(A:Lng):Nat->Lng
 |0=>eps
 |k+1=>cat (uF A k) A
def q6L(A:Lng):Lng:=fun w=>∃k,uF A (k+1) w
theorem Y5(A B C:Lng)(w:List Nat):cat (cat A B) C w↔cat A (cat B C) w:=by
 constructor
 ·rintro⟨u,v,rfl,⟨a,b,rfl,ha,hb⟩,hv⟩
  exact⟨a,b++v,by simp,ha,b,v,rfl,hb,hv⟩
 rintro⟨u,v,rfl,ha,b,c,rfl,hb,hc⟩;exact⟨u++b,c,by simp,⟨u,b,rfl,ha,hb⟩,hc⟩
theorem zZ(A:Lng)(w:List Nat):cat A eps w↔A w:=by
 constructor
 ·rintro⟨u,v,rfl,ha,rfl⟩;simpa using ha
 intro h;exact⟨w,[],by simp,h,rfl⟩
theorem R3(A:Lng)(w:List Nat):cat eps A w↔A w:=by
 constructor
 ·rintro⟨u,v,rfl,rfl,hv⟩;simpa using hv
 intro h;exact⟨[],w,by simp,rfl,h⟩
theorem eF{A B C D:Lng}(h1:∀w,A w↔B w)(h2:∀w,C w↔D w)(w:List Nat):cat A C w↔cat B D w:=by
 constructor
 ·rintro⟨u,v,e,a,b⟩;exact⟨u,v,e,(h1 _).1 a,(h2 _).1 b⟩
 rintro⟨u,v,e,a,b⟩;exact⟨u,v,e,(h1 _).2 a,(h2 _).2 b⟩
theorem q1X{A:Lng}{w:List Nat}(h:A w):q6L A w:=⟨0,[],w,by simp,rfl,h⟩
theorem q4f{A:Lng}{w v:List Nat}(h:q6L A w)(hv:A v):q6L A (w++v):=by
 obtain⟨k,hk⟩:=h;exact⟨k+1,w,v,rfl,hk,hv⟩
def many_NtA(c2:Bool)(L:Lng):Lng:=fun w=>if c2 then q6L L w else L w
def q8Z(c2:Bool)(L:Lng):Lng:=fun w=>w=[]\/(c2=true/\q6L L w)
theorem wO{c2:Bool}{L:Lng}{w v:List Nat}(h:q8Z c2 L w)(hv:L v):many_NtA c2 L (w++v):=by
 unfold many_NtA;rcases h with rfl|⟨rfl,h⟩
 ·cases c2
  ·simpa using hv
  simpa using q1X hv
 simpa using q4f h hv
theorem q39{c2:Bool}{L:Lng}{w:List Nat}(h:many_NtA c2 L w)(hc:c2=true):q8Z c2 L w:=by
 subst hc;exact .inr ⟨rfl,by simpa[many_NtA]using h⟩
structure Ext(D B:Nat->Prop)(e eq e':List (List Ed))(qf ql at_ z:Nat)(c1 c2:Bool):Prop where
 din:∀a x,D a->x∈Row e a->∃b:Nat,x.tgt=b/\D b
 bin:∀a x,B a->x∈Row eq a->∃b:Nat,x.tgt=b/\B b
 apart:∀a,D a->¬B a
 hat:D at_
 hf:B qf
 hl:B ql
 hz:c1=true->D z/\Row e z=[]/\z≠at_
 dro:∀a x,D a->(x∈Row e' a↔x∈Row e a\/(a=at_/\x=yT qf))
 bro:∀a x,B a->(x∈Row e' a↔x∈Row eq a\/(a=ql/\((c1=true/\x=yT z)\/(c2=true/\x=yT qf))))
section
variable {D B : Nat → Prop} {e eq e' : List (List Ed)} {qf ql at_ z : Nat} {c1 c2 : Bool} {L : Lng}
def inB(e eq:List (List Ed))(s at_ qf:Nat)(c2:Bool)(L:Lng)(a:Nat):Lng:=cat (fun u=>gD e s u at_) (cat (q8Z c2 L) (fun v=>gD eq qf v a))
theorem Ext.sound(h:Ext D B e eq e' qf ql at_ z c1 c2)(hL:∀w,gD eq qf w ql↔L w){s:Nat}(hs:D s){w:List Nat}{a:Nat}(hp:gD e' s w a):
  (D a/\(gD e s w a\/(a=z/\c1=true/\cat (fun u=>gD e s u at_) (many_NtA c2 L) w)))\/(B a/\inB e eq s at_ qf c2 L a w):=by
 induction hp with
 |nil=>exact .inl ⟨hs,.inl .nil⟩
 |free h0 k1 k2 k3 ih=>
  rename_i w a b x;rcases ih with⟨hd,ih⟩|⟨hb,ih⟩
  ·rcases(h.dro a x hd).1 k1 with k|⟨rfl,rfl⟩
   ·obtain⟨b',hb',hd'⟩:=h.din a x hd k
    obtain rfl:b'=b:=jr (hb'.symm.trans k3);rcases ih with ih|⟨rfl,hc,-⟩
    ·exact .inl ⟨hd',.inl (.free ih k k2 k3)⟩
    have:=(h.hz hc).2.1;unfold Row at this k;rw[this]at k;cases k
   obtain rfl:qf=b:=jr k3;rcases ih with ih|⟨rfl,hc,-⟩
   ·exact .inr ⟨h.hf,w,[],by simp,ih,[],[],rfl,.inl rfl,.nil⟩
   exact absurd rfl (h.hz hc).2.2
  rcases(h.bro a x hb).1 k1 with k|⟨rfl,⟨hc,rfl⟩|⟨hc,rfl⟩⟩
  ·obtain⟨b',hb',hd'⟩:=h.bin a x hb k
   obtain rfl:b'=b:=jr (hb'.symm.trans k3);obtain⟨u,v,rfl,hu,p,q,rfl,hp,hq⟩:=ih;exact .inr ⟨hd',u,p++q,by simp,hu,p,q,rfl,hp,.free hq k k2 k3⟩
  ·obtain rfl:z=b:=jr k3
   obtain⟨u,v,rfl,hu,p,q,rfl,hp,hq⟩:=ih;exact .inl ⟨(h.hz hc).1,.inr ⟨rfl,hc,u,p++q,rfl,hu,wO hp ((hL q).1 hq)⟩⟩
  obtain rfl:qf=b:=jr k3;obtain⟨u,v,rfl,hu,p,q,rfl,hp,hq⟩:=ih;exact .inr ⟨h.hf,u,p++q,rfl,hu,p++q,[],by simp,q39 (wO hp ((hL q).1 hq)) hc,.nil⟩
 |byte h0 k1 k2 k3 k4 ih=>
  rename_i w a b c x;rcases ih with⟨hd,ih⟩|⟨hb,ih⟩
  ·rcases(h.dro a x hd).1 k1 with k|⟨rfl,rfl⟩
   ·obtain⟨b',hb',hd'⟩:=h.din a x hd k
    obtain rfl:b'=b:=jr (hb'.symm.trans k4);rcases ih with ih|⟨rfl,hc,-⟩
    ·exact .inl ⟨hd',.inl (.byte ih k k2 k3 k4)⟩
    have:=(h.hz hc).2.1;unfold Row at this k;rw[this]at k;cases k
   cases k2
  rcases(h.bro a x hb).1 k1 with k|⟨rfl,⟨hc,rfl⟩|⟨hc,rfl⟩⟩
  ·obtain⟨b',hb',hd'⟩:=h.bin a x hb k
   obtain rfl:b'=b:=jr (hb'.symm.trans k4);obtain⟨u,v,rfl,hu,p,q,rfl,hp,hq⟩:=ih;exact .inr ⟨hd',u,p++(q++[c]),by simp,hu,p,q++[c],rfl,hp,.byte hq k k2 k3 k4⟩
  ·cases k2
  cases k2
theorem Ext.upD(h:Ext D B e eq e' qf ql at_ z c1 c2){s:Nat}(hs:D s){w:List Nat}{a:Nat}(hp:gD e s w a):D a/\gD e' s w a:=
 hp.sub h.din (fun a x hd hx=>(h.dro a x hd).2 (.inl hx)) hs
theorem Ext.upB(h:Ext D B e eq e' qf ql at_ z c1 c2){w:List Nat}{a:Nat}(hp:gD eq qf w a):B a/\gD e' qf w a:=
 hp.sub h.bin (fun a x hd hx=>(h.bro a x hd).2 (.inl hx)) h.hf
theorem Ext.loops(h:Ext D B e eq e' qf ql at_ z c1 c2)(hL:∀w,gD eq qf w ql↔L w)(hc:c2=true):∀(k:Nat) (w:List Nat),uF L (k+1) w->gD e' qf w ql
 |0,w,hw=>by
  obtain⟨u,v,rfl,rfl,hv⟩:=hw;simpa using(h.upB ((hL v).2 hv)).2
 |k+1,w,⟨u,v,hw,hu,hv⟩=>by
  subst hw;have h1:=Ext.loops h hL hc k u hu;have h2:gD e' qf u qf:=.free h1 ((h.bro ql (yT qf) h.hl).2 (.inr ⟨rfl,.inr ⟨hc,rfl⟩⟩)) rfl rfl;exact h2.trans (h.upB ((hL v).2 hv)).2
theorem Ext.many(h:Ext D B e eq e' qf ql at_ z c1 c2)(hL:∀w,gD eq qf w ql↔L w){w:List Nat}(hw:many_NtA c2 L w):gD e' qf w ql:=by
 unfold Cm.many_NtA at hw;by_cases hc:c2=true
 ·subst hc
  obtain⟨k,hk⟩:q6L L w:=by simpa using hw
  exact h.loops hL rfl k w hk
 have hc:c2=false:=by simpa using hc
 subst hc;exact(h.upB ((hL w).2 (by simpa using hw))).2
theorem Ext.enter(h:Ext D B e eq e' qf ql at_ z c1 c2)(hL:∀w,gD eq qf w ql↔L w){s:Nat}(hs:D s){w:List Nat}(hw:cat (fun u=>gD e s u at_) (Cm.many_NtA c2 L) w):gD e' s w ql:=by
 obtain⟨u,v,rfl,hu,hv⟩:=hw;have h1:=(h.upD hs hu).2;have h2:gD e' s u qf:=.free h1 ((h.dro at_ (yT qf) h.hat).2 (.inr ⟨rfl,rfl⟩)) rfl rfl;exact h2.trans (h.many hL hv)
theorem Ext.old(h:Ext D B e eq e' qf ql at_ z c1 c2)(hL:∀w,gD eq qf w ql↔L w){s:Nat}(hs:D s){w:List Nat}{a:Nat}(ha:D a)(hz:a=z->c1=false):gD e' s w a↔gD e s w a:=by
 refine⟨fun hp=>?_,fun hp=>(h.upD hs hp).2⟩;rcases h.sound hL hs hp with⟨-,h1|⟨h1,h2,-⟩⟩|⟨h1,-⟩
 ·exact h1
 ·rw[hz h1]at h2;cases h2
 exact absurd h1 (h.apart a ha)
theorem Ext.toZ(h:Ext D B e eq e' qf ql at_ z c1 c2)(hL:∀w,gD eq qf w ql↔L w){s:Nat}(hs:D s){w:List Nat}(hz:D z):gD e' s w z↔gD e s w z\/(c1=true/\cat (fun u=>gD e s u at_) (Cm.many_NtA c2 L) w):=by
 constructor
 ·intro hp
  rcases h.sound hL hs hp with⟨-,h1|⟨-,h2,h3⟩⟩|⟨h1,-⟩
  ·exact .inl h1
  ·exact .inr ⟨h2,h3⟩
  exact absurd h1 (h.apart z hz)
 rintro(hp|⟨hc,hw⟩)
 ·exact(h.upD hs hp).2
 exact .free (h.enter hL hs hw) ((h.bro ql (yT z) h.hl).2 (.inr ⟨rfl,.inl ⟨hc,rfl⟩⟩)) rfl rfl
theorem Ext.toL(h:Ext D B e eq e' qf ql at_ z c1 c2)(hL:∀w,gD eq qf w ql↔L w){s:Nat}(hs:D s){w:List Nat}:gD e' s w ql↔cat (fun u=>gD e s u at_) (Cm.many_NtA c2 L) w:=by
 constructor
 ·intro hp
  rcases h.sound hL hs hp with⟨h1,-⟩|⟨-,h1⟩
  ·exact absurd h.hl (h.apart ql h1)
  obtain⟨u,v,rfl,hu,p,q,rfl,hp,hq⟩:=h1;exact⟨u,p++q,rfl,hu,wO hp ((hL q).1 hq)⟩
 exact h.enter hL hs
theorem Ext.closed(h:Ext D B e eq e' qf ql at_ z c1 c2):∀a x,(D a\/B a)->x∈Row e' a->∃b:Nat,x.tgt=b/\(D b\/B b):=by
 intro a x hab hx;rcases hab with hd|hb
 ·rcases(h.dro a x hd).1 hx with k|⟨rfl,rfl⟩
  ·obtain⟨b,h1,h2⟩:=h.din a x hd k;exact⟨b,h1,.inl h2⟩
  exact⟨qf,rfl,.inr h.hf⟩
 rcases(h.bro a x hb).1 hx with k|⟨rfl,⟨hc,rfl⟩|⟨hc,rfl⟩⟩
 ·obtain⟨b,h1,h2⟩:=h.bin a x hb k;exact⟨b,h1,.inr h2⟩
 ·exact⟨z,rfl,.inl (h.hz hc).1⟩
 exact⟨qf,rfl,.inr h.hf⟩
end
end Go.Cm
namespace Go.Cm
def tF:Lng:=fun _=>False
def q19(Ls:List Lng):Nat->Lng
 |0=>eps
 |i+1=>cat (q19 Ls i) (Ls.getD i tF)
def q70(Ls:List Lng)(i:Nat):Lng:=fun w=>∃j,j<i/\Ls.getD j tF w
def dT(lo hi:Int)(L:Lng):Lng:=fun w=>∃k:Nat,lo<=k/\(hi<0\/(k:Int)<=hi)/\uF L k w
def q90(x:Nd):Lng:=fun w=>∃c,w=[c]/\pB (dM x 0) c=true
def gT(x:Nd)(Ls:List Lng):Lng:=
 if x.kd=1 then q90 x else if x.kd=2 then eps else if x.kd=8 then dT x.lo x.hi (Ls.getD 0 tF)
 else if x.kd=5 then dT 0 (-1) (Ls.getD 0 tF)else if x.kd=6 then dT 1 (-1) (Ls.getD 0 tF)else if x.kd=7 then dT 0 1 (Ls.getD 0 tF)
 else if x.kd=3 then q19 Ls Ls.length else q70 Ls Ls.length
def cG:Fo->List Lng
 |.nil=>[]
 |.cons x k r=>gT x (cG k)::cG r
theorem r7:∀f,(cG f).length=cnt f
 |.nil=>rfl
 |.cons x k r=>by simp[cG,cnt,r7 r]
theorem R4(s:St)(a:Nat):Row (dR s).e a=Row s.e a:=by
 unfold Row dR;simp only[qu,List.getElem?_append];split
 ·rfl
 rw[qQ (l:=s.e) (by omega)];rcases Nat.eq_or_lt_of_le (show s.e.length<=a by omega)with h|h
 ·subst h;simp
 rw[qQ (by simp;omega)]
theorem nO(s:St)(a:Nat):Row (two s).e a=Row s.e a:=by unfold two;rw[R4,R4]
theorem lM(s:St)(i to_ a:Nat):Row (bM i to_ s).e a=if a=i/\i<s.e.length then Row s.e a++[yT to_]else Row s.e a:=by
 unfold Row bM q35;simp only[qu,jQ];by_cases h:i=a
 ·subst h
  by_cases hl:i<s.e.length
  ·simp[hl]
  simp[hl]
 rw[qv h,qv (fun hh=>h hh.1.symm)]
theorem pC{s:St}{i to_ a:Nat}(hi:i<s.e.length)(x:Ed):x∈Row (bM i to_ s).e a↔x∈Row s.e a\/(a=i/\x=yT to_):=by
 rw[lM];by_cases h:a=i
 ·subst h;rw[qw ⟨rfl,hi⟩];simp
 rw[qv (fun hh=>h hh.1)];simp[h]
theorem tG{b:Bool}{s:St}{i to_ a:Nat}(hi:i<s.e.length)(x:Ed):x∈Row (iff b (bM i to_) s).e a↔x∈Row s.e a\/(b=true/\a=i/\x=yT to_):=by
 cases b
 ·simp[iff]
 simpa[iff]using pC hi x
theorem dU{e:List (List Ed)}{a:Nat}(h:e.length<=a):Row e a=[]:=by
 unfold Row;simp[List.getD,qQ h]
theorem mO{r:List Ed}(h:∀x,x∉r):r=[]:=List.eq_nil_iff_forall_not_mem.2 h
def WQ(z:Int):Prop:=0<=z/\z<18446744073709551616
def EdQ(x:Ed):Prop:=(x.free=true->x.a=0/\x.b=0/\x.c=0/\x.d=0)/\(WQ x.a/\WQ x.b/\WQ x.c/\WQ x.d)
def NdQ(x:Nd):Prop:=WQ x.a/\WQ x.b/\WQ x.c/\WQ x.d
theorem r8:WQ 0:=⟨Int.le_refl _,by decide⟩
theorem iR(to_:Int):EdQ (yT to_):=⟨fun _=>⟨rfl,rfl,rfl,rfl⟩,r8,r8,r8,r8⟩
structure mP(s:St)(y:Pc×St)(L:Lng):Prop where
 grow:s.e.length<=y.2.e.length
 old:∀a,a<s.e.length->Row y.2.e a=Row s.e a
 hf:s.e.length<=y.1.f/\y.1.f<y.2.e.length
 hl:s.e.length<=y.1.l/\y.1.l<y.2.e.length
 nol:Row y.2.e y.1.l=[]
 inn:∀a x,s.e.length<=a->x∈Row y.2.e a->∃b:Nat,x.tgt=b/\s.e.length<=b/\b<y.2.e.length
 edq:∀a x,s.e.length<=a->x∈Row y.2.e a->EdQ x
 lang:∀w,gD y.2.e y.1.f w y.1.l↔L w
 rul:y.2.r=s.r++List.replicate (y.2.e.length-s.e.length) (-1)
structure I5(s:St)(y:List Pc×St)(Ls:List Lng)(bd:Nat->Nat):Prop where
 len:y.1.length=Ls.length
 b0:bd 0=s.e.length
 bc:bd Ls.length=y.2.e.length
 mono:∀i,i<Ls.length->bd i<=bd (i+1)
 old:∀a,a<s.e.length->Row y.2.e a=Row s.e a
 hf:∀i,i<Ls.length->bd i<=(y.1.getD i zP).f/\(y.1.getD i zP).f<bd (i+1)
 hl:∀i,i<Ls.length->bd i<=(y.1.getD i zP).l/\(y.1.getD i zP).l<bd (i+1)
 nol:∀i,i<Ls.length->Row y.2.e (y.1.getD i zP).l=[]
 inn:∀i,i<Ls.length->∀a x,bd i<=a->a<bd (i+1)->x∈Row y.2.e a->∃b:Nat,x.tgt=b/\bd i<=b/\b<bd (i+1)
 edq:∀a x,s.e.length<=a->x∈Row y.2.e a->EdQ x
 lang:∀i,i<Ls.length->∀w,gD y.2.e (y.1.getD i zP).f w (y.1.getD i zP).l↔Ls.getD i tF w
 rul:y.2.r=s.r++List.replicate (y.2.e.length-s.e.length) (-1)
theorem I5.mono' {s : St} {y : List Pc × St} {Ls : List Lng} {bd : Nat → Nat} (h : I5 s y Ls bd) : ∀ i j, i ≤ j → j ≤ Ls.length → bd i ≤ bd j := by
  intro i j hij hj
  induction j with
  | zero => obtain rfl : i = 0 := by omega
            exact qb _
  | succ j ih =>
    rcases Nat.eq_or_lt_of_le hij with rfl | h1
    · exact qb _
    · exact qc (ih (by omega) (by omega)) (h.mono j (by omega))
theorem q4g{e e':List (List Ed)}{D:Nat->Prop}(h1:∀a x,D a->x∈Row e a->∃b:Nat,x.tgt=b/\D b)(h2:∀a,D a->Row e' a=Row e a){s a:Nat}(hs:D s)(w:List Nat):gD e s w a↔gD e' s w a:=
 ⟨fun h=>(h.sub h1 (fun a x hd hx=>by rw[h2 a hd];exact hx) hs).2,fun h=>(h.sub (D:=D) (e':=e) (fun a x hd hx=>h1 a x hd (by rw[<-h2 a hd];exact hx)) (fun a x hd hx=>by rw[<-h2 a hd];exact hx) hs).2⟩
theorem q91(s:St):I5 s ([],s) [] (fun _=>s.e.length):=
 ⟨rfl,rfl,rfl,fun i hi=>absurd hi (qC i),fun _ _=>rfl,fun i hi=>absurd hi (qC i),fun i hi=>absurd hi (qC i),fun i hi=>absurd hi (qC i),fun i hi=>absurd hi (qC i),fun a x h1 (h2:x∈Row s.e a)=>(by rw[dU h1]at h2;cases h2),fun i hi=>absurd hi (qC i),by simp⟩
theorem q71{s:St}{y:Pc×St}{z:List Pc×St}{L:Lng}{Ls:List Lng}{bd:Nat->Nat}(h:mP s y L)(k:I5 y.2 z Ls bd):∃bd',I5 s (y.1::z.1,z.2) (L::Ls) bd':=by
 refine⟨fun i=>match i with|0=>s.e.length|i+1=>bd i,?_⟩;have hg:=h.grow;have hb:y.2.e.length<=z.2.e.length:=by rw[<-k.b0,<-k.bc];exact k.mono' 0 _ (qd _) (qb _)
 have hrow:∀a,s.e.length<=a->a<y.2.e.length->Row z.2.e a=Row y.2.e a:=fun a _ h2=>k.old a h2;have hnone:∀a x,y.2.e.length<=a->x∈Row y.2.e a->False:=fun a x h1 h2=>by rw[dU h1]at h2;cases h2
 refine⟨by simp[k.len],rfl,k.bc,?_,?_,?_,?_,?_,?_,?_,?_,?_⟩
 ·intro i hi
  cases i with
  |zero=>show s.e.length<=bd 0;rw[k.b0];exact hg
  |succ i=>exact k.mono i (by simpa using hi)
 ·intro a ha
  show Row z.2.e a=_;rw[k.old a (by omega),h.old a ha]
 ·intro i hi
  cases i with
  |zero=>show s.e.length<=y.1.f/\y.1.f<bd 0;rw[k.b0];exact h.hf
  |succ i=>exact k.hf i (by simpa using hi)
 ·intro i hi
  cases i with
  |zero=>show s.e.length<=y.1.l/\y.1.l<bd 0;rw[k.b0];exact h.hl
  |succ i=>exact k.hl i (by simpa using hi)
 ·intro i hi
  cases i with
  |zero=>show Row z.2.e y.1.l=[];rw[hrow _ h.hl.1 h.hl.2];exact h.nol
  |succ i=>exact k.nol i (by simpa using hi)
 ·intro i hi a x h1 h2 hx
  cases i with
  |zero=>
   change s.e.length<=a at h1;change a<bd 0 at h2;rw[k.b0]at h2;change x∈Row z.2.e a at hx;rw[hrow a h1 h2]at hx;show∃b:Nat,x.tgt=b/\s.e.length<=b/\b<bd 0;rw[k.b0];exact h.inn a x h1 hx
  |succ i=>exact k.inn i (by simpa using hi) a x h1 h2 hx
 ·intro a x h1 hx
  change x∈Row z.2.e a at hx;by_cases h2:a<y.2.e.length
  ·rw[hrow a h1 h2]at hx;exact h.edq a x h1 hx
  exact k.edq a x (by omega) hx
 ·intro i hi w
  cases i with
  |zero=>
   show gD z.2.e y.1.f w y.1.l↔L w;rw[<-h.lang w];refine(q4g (D:=fun a=>s.e.length<=a/\a<y.2.e.length) (fun a x hd hx=>?_) (fun a hd=>hrow a hd.1 hd.2) h.hf w).symm;exact h.inn a x hd.1 hx
  |succ i=>exact k.lang i (by simpa using hi) w
 show z.2.r=_;rw[k.rul,h.rul,qk,List.replicate_append_replicate]
 congr 2
 dsimp only
 omega
theorem q4h(x:Nd)(hx:x.kd=1\/x.kd=2)(hq:NdQ x)(h2q:x.kd=2->x.a=0/\x.b=0/\x.c=0/\x.d=0)(s:St):mP s (aN s,oW x s) (if x.kd=1 then q90 x else eps):=by
 have hlen:(oW x s).e.length=s.e.length+2:=q6S x s
 have hrow:∀a,Row (oW x s).e a=if a=s.e.length then [dM x (s.e.length+1)]else Row s.e a:=fun a=>by
  unfold oW;show Row ((two s).e.set _ _) a=_;unfold Row;simp only[qu,jQ];by_cases h:s.e.length=a
  ·subst h;simp
  rw[qv h,qv (fun hh=>h hh.symm)];exact nO s a
 have hne:Row (oW x s).e (s.e.length+1)=[]:=by rw[hrow,qv (by omega)];exact dU (by omega)
 refine⟨by dsimp only;omega,fun a ha=>by dsimp only;rw[hrow,qv (by omega)],by dsimp only[aN];omega,by dsimp only[aN];omega,hne,fun a y h1 hy=>?_,fun a y h1 hy=>?_,fun w=>?_,?_⟩
 ·dsimp only at hy⊢
  rw[hrow]at hy;by_cases h:a=s.e.length
  ·rw[qw h]at hy
   obtain rfl:=List.mem_singleton.1 hy;exact⟨s.e.length+1,rfl,by omega,by omega⟩
  rw[qv h,dU (by omega)]at hy;cases hy
 ·dsimp only at hy
  rw[hrow]at hy;by_cases h:a=s.e.length
  ·rw[qw h]at hy
   obtain rfl:=List.mem_singleton.1 hy;exact⟨fun hf=>h2q (by simpa[dM]using hf),hq⟩
  rw[qv h,dU (by omega)]at hy;cases hy
 ·dsimp only[aN]
  have h1:dM x (s.e.length+1)∈Row (oW x s).e s.e.length:=by rw[hrow,qw rfl];simp
  have key:∀w a,gD (oW x s).e s.e.length w a->(a=s.e.length/\w=[])\/(a=s.e.length+1/\(if x.kd=1 then q90 x else eps) w):=by
   intro w a hp
   induction hp with
   |nil=>exact .inl ⟨rfl,rfl⟩
   |free h0 k1 k2 k3 ih=>
    rename_i w a b z;rcases ih with⟨rfl,rfl⟩|⟨rfl,-⟩
    ·rw[hrow,qw rfl]at k1
     obtain rfl:=List.mem_singleton.1 k1;have h2:x.kd=2:=by simpa[dM]using k2
     refine .inr ⟨?_,by rw[qv (by omega)];rfl⟩;simp only[dM]at k3;omega
    rw[hne]at k1;cases k1
   |byte h0 k1 k2 k3 k4 ih=>
    rename_i w a b c z;rcases ih with⟨rfl,rfl⟩|⟨rfl,-⟩
    ·rw[hrow,qw rfl]at k1
     obtain rfl:=List.mem_singleton.1 k1;have h2:x.kd≠2:=by simpa[dM]using k2
     refine .inr ⟨?_,by rw[qw (by omega)];exact⟨c,rfl,k3⟩⟩;simp only[dM]at k4;omega
    rw[hne]at k1;cases k1
  constructor
  ·intro hp
   rcases key w _ hp with⟨h2,-⟩|⟨-,h2⟩
   ·omega
   exact h2
  intro hw;by_cases hk:x.kd=1
  ·rw[qw hk]at hw
   obtain⟨c,rfl,hh⟩:=hw;exact .byte (w:=[]) .nil h1 (by simp[dM];omega) hh rfl
  rw[qv hk]at hw;obtain rfl:w=[]:=hw;exact .free .nil h1 (by simp[dM];omega) rfl
 dsimp only
 rw[hlen];simp[oW,two,dR,List.replicate]
theorem q4i{s:St}{y:Pc×St}{L:Lng}(h:mP s y L)(out again:Bool):mP s (aN y.2,m4 out again y.1 y.2) (fun w=>(out=true/\w=[])\/many_NtA again L w):=by
 obtain⟨q,t⟩:=y;have hg:=h.grow;have hf:=h.hf;have hl:=h.hl
 dsimp only at hg hf hl⊢
 obtain⟨n,hn⟩:∃n,n=t.e.length:=⟨_,rfl⟩;have hp:aN t=⟨n,n+1⟩:=by rw[hn];rfl
 have hlen:(m4 out again q t).e.length=n+2:=by rw[yU,hn]
 have hr0:Row t.e n=[]:=dU (by omega);have hr1:Row t.e (n+1)=[]:=dU (by omega)
 have qcx:∀a x,x∈Row (m4 out again q t).e a↔((x∈Row t.e a\/(a=n/\x=yT q.f))\/(a=q.l/\x=yT (n+1:Nat)))\/(out=true/\a=n/\x=yT (n+1:Nat))\/(again=true/\a=q.l/\x=yT q.f):=fun a x=>by
  unfold m4;rw[hp]
  dsimp only
  rw[tG (by simp;omega),tG (by simp;omega),pC (by simp;omega),pC (by simp;omega),nO];rw[or_assoc]
 obtain⟨e0,he0⟩:∃e0,e0=(iff out (bM n (n+1)) (two t)).e:=⟨_,rfl⟩
 have hm0:∀a x,x∈Row e0 a↔x∈Row t.e a\/(out=true/\a=n/\x=yT (n+1:Nat)):=fun a x=>by
  rw[he0,tG (by simp;omega),nO]
 have hE:Ext (fun a=>a=n\/a=n+1) (fun a=>s.e.length<=a/\a<n) e0 t.e (m4 out again q t).e q.f q.l n (n+1) true again:=by
  refine⟨?_,?_,?_,.inl rfl,by omega,by omega,fun _=>⟨.inr rfl,mO fun x hx=>?_,by omega⟩,?_,?_⟩
  ·intro a x hd hx
   rcases(hm0 a x).1 hx with h1|⟨-,rfl,rfl⟩
   ·rw[dU (by omega)]at h1;cases h1
   exact⟨_,rfl,.inr rfl⟩
  ·intro a x hb hx
   obtain⟨b,h1,h2⟩:=h.inn a x hb.1 hx;exact⟨b,h1,by dsimp only at h2;omega⟩
  ·intro a h1 h2;omega
  ·rcases(hm0 _ x).1 hx with h1|⟨-,h1,-⟩
   ·rw[hr1]at h1;cases h1
   omega
  ·intro a x hd
   rw[qcx,hm0];have h1:a≠q.l:=by omega
   simp only[h1,false_and,and_false,or_false]
   constructor
   ·exact ZmE8
   exact ZmE8
  intro a x hb;rw[qcx];have h1:a≠n:=by omega
  simp only[h1,false_and,and_false,or_false,false_or,true_and]
  constructor
  ·rintro((h1|h1)|h1)
   ·exact .inl h1
   ·exact .inr ⟨h1.1,.inl h1.2⟩
   exact .inr ⟨h1.2.1,.inr ⟨h1.1,h1.2.2⟩⟩
  rintro(h1|⟨h1,h2|h2⟩)
  ·exact .inl (.inl h1)
  ·exact .inl (.inr ⟨h1,h2⟩)
  exact .inr ⟨h2.1,h1,h2.2⟩
 have hL:=h.lang
 dsimp only at hL
 have base:∀w,gD e0 n w n↔w=[]:=fun w=>by
  constructor
  ·intro hp
   have key:∀w a,gD e0 n w a->(a=n/\w=[])\/a=n+1:=by
    intro w a hp
    induction hp with
    |nil=>exact .inl ⟨rfl,rfl⟩
    |free h0 k1 k2 k3 ih=>
     rcases(hm0 _ _).1 k1 with h1|⟨-,rfl,rfl⟩
     ·exact ZmE9
     exact .inr (jr k3).symm
    |byte h0 k1 k2 k3 k4 ih=>
     rcases(hm0 _ _).1 k1 with h1|⟨-,rfl,rfl⟩
     ·exact ZmE9
     cases k2
   rcases key w n hp with⟨-,h1⟩|h1
   ·exact h1
   omega
  rintro rfl;exact .nil
 have baseZ:∀w,gD e0 n w (n+1)↔out=true/\w=[]:=fun w=>by
  constructor
  ·intro hp
   have key:∀w a,gD e0 n w a->(a=n/\w=[])\/(a=n+1/\out=true/\w=[]):=by
    intro w a hp
    induction hp with
    |nil=>exact .inl ⟨rfl,rfl⟩
    |free h0 k1 k2 k3 ih=>
     rcases(hm0 _ _).1 k1 with h1|⟨ho,rfl,rfl⟩
     ·exact ZmE7
     rcases ih with⟨-,rfl⟩|⟨h1,-⟩
     ·exact .inr ⟨(jr k3).symm,ho,rfl⟩
     omega
    |byte h0 k1 k2 k3 k4 ih=>
     rcases(hm0 _ _).1 k1 with h1|⟨-,rfl,rfl⟩
     ·exact ZmE7
     cases k2
   rcases key w _ hp with⟨h1,-⟩|⟨-,h1⟩
   ·omega
   exact h1
  rintro⟨ho,rfl⟩;exact gD.one ((hm0 _ _).2 (.inr ⟨ho,rfl,rfl⟩)) rfl rfl
 rw[hp];refine⟨by dsimp only;omega,fun a ha=>?_,by dsimp only;omega,by dsimp only;omega,mO fun x hx=>?_,fun a x h1 hx=>?_,fun a x h1 hx=>?_,fun w=>?_,?_⟩
 ·dsimp only
  rw[<-h.old a ha]
  dsimp only
  unfold m4;rw[hp]
  dsimp only
  have key:∀(b:Bool) (i to_:Nat) (u:St),a≠i->Row (iff b (bM i to_) u).e a=Row u.e a:=fun b i to_ u hne=>by
   exact ZmE10
  rw[key _ _ _ _ (by omega),key _ _ _ _ (by omega),lM,qv (fun hh=>by omega),lM,qv (fun hh=>by omega),nO]
 ·dsimp only at hx
  rcases(qcx _ x).1 hx with((h1|h1)|h1)|h1|h1
  ·rw[hr1]at h1;cases h1
  ·omega
  ·omega
  ·omega
  omega
 ·dsimp only at hx⊢
  rw[hlen];by_cases hlt:a<n+2
  ·obtain⟨b,h2,h3⟩:=hE.closed a x (by omega) hx
   exact⟨b,h2,by omega⟩
  rw[dU (by omega)]at hx;cases hx
 ·dsimp only at hx
  rcases(qcx a x).1 hx with((h2|⟨-,rfl⟩)|⟨-,rfl⟩)|⟨-,-,rfl⟩|⟨-,-,rfl⟩
  ·exact h.edq a x h1 h2
  ·exact iR _
  ·exact iR _
  ·exact iR _
  exact iR _
 ·dsimp only
  rw[hE.toZ hL (.inl rfl) (.inr rfl),baseZ];refine or_congr Iff.rfl ⟨fun⟨_,u,v,e1,e2,e3⟩=>?_,fun h1=>⟨rfl,[],w,rfl,.nil,h1⟩⟩;obtain rfl:=(base u).1 e2;rw[e1];exact e3
 dsimp only
 have h1:(m4 out again q t).r=t.r++[-1,-1]:=by
  unfold m4;have key:∀(b:Bool) (i to_:Nat) (u:St),(iff b (bM i to_) u).r=u.r:=fun b i to_ u=>by cases b<;>rfl
  dsimp only
  rw[key,key];simp[bM,two,dR]
 have h2:=h.rul
 dsimp only at h2
 rw[h1,h2,hlen,qk]
 congr 1
 have:n+2-s.e.length=(t.e.length-s.e.length)+2:=by omega
 rw[this,<-List.replicate_append_replicate]
 rfl
end Go.Cm
namespace Go.Cm
section
variable {s : St} {y : List Pc × St} {Ls : List Lng} {bd : Nat → Nat}
theorem I5.blk(h:I5 s y Ls bd){a:Nat}:∀i,i<=Ls.length->bd 0<=a->a<bd i->∃j,j<i/\bd j<=a/\a<bd (j+1)
 |0,_,h1,h2=>by omega
 |i+1,hi,h1,h2=>by
  by_cases h3:a<bd i
  ·obtain⟨j,hj,h4⟩:=I5.blk h i (by omega) h1 h3
   exact⟨j,by omega,h4⟩
  exact⟨i,by omega,by omega,h2⟩
theorem I5.cls(h:I5 s y Ls bd){i:Nat}(hi:i<=Ls.length){a:Nat}{x:Ed}(h1:bd 0<=a)(h2:a<bd i)(hx:x∈Row y.2.e a):∃b:Nat,x.tgt=b/\bd 0<=b/\b<bd i:=by
 obtain⟨j,hj,h3,h4⟩:=h.blk i hi h1 h2;obtain⟨b,h5,h6,h7⟩:=h.inn j (by omega) a x h3 h4 hx;have:=h.mono' 0 j (by omega) (by omega);have:=h.mono' (j+1) i (by omega) hi;exact⟨b,h5,by omega,by omega⟩
theorem oC(h:I5 s y Ls bd)(x:Ed)(a:Nat):∀i,i<=Ls.length->(x∈Row (fB y.1 i y.2).e a↔x∈Row y.2.e a\/∃j,0<j/\j<i/\a=(y.1.getD (j-1) zP).l/\x=yT (y.1.getD j zP).f)
 |0,_=>by simp[fB]
 |i+1,hi=>by
  have ih:=oC h x a i (by omega)
  have hl:(y.1.getD (i-1) zP).l<(fB y.1 i y.2).e.length:=by
   rw[gR,<-h.bc];have:=(h.hl (i-1) (by omega)).2;have:=h.mono' (i-1+1) Ls.length (by omega) (qb _);omega
  show x∈Row (iff _ _ _).e a↔_;rw[tG hl,ih]
  constructor
  ·rintro((h1|⟨j,h1,h2,h3⟩)|⟨h1,h2⟩)
   ·exact .inl h1
   ·exact .inr ⟨j,h1,by omega,h3⟩
   exact .inr ⟨i,by simpa using h1,by omega,h2⟩
  rintro(h1|⟨j,h1,h2,h3⟩)
  ·exact .inl (.inl h1)
  by_cases hj:j=i
  ·subst hj;exact .inr ⟨by simpa using h1,h3⟩
  exact .inl (.inr ⟨j,h1,by omega,h3⟩)
theorem q4j(h:I5 s y Ls bd)(i:Nat)(hi:i+1<Ls.length):
  Ext (fun a=>bd 0<=a/\a<bd (i+1)) (fun a=>bd (i+1)<=a/\a<bd (i+2)) (fB y.1 (i+1) y.2).e y.2.e (fB y.1 (i+2) y.2).e (y.1.getD (i+1) zP).f (y.1.getD (i+1) zP).l (y.1.getD i zP).l 0 false false:=by
 have hli:=h.hl i (by omega);have m0:=h.mono' 0 i (by omega) (by omega);refine⟨?_,?_,?_,⟨by omega,by omega⟩,h.hf (i+1) hi,h.hl (i+1) hi,fun hc=>absurd hc (by decide),?_,?_⟩
 ·intro a x hd hx
  rcases(oC h x a (i+1) (by omega)).1 hx with h1|⟨j,h1,h2,h3,rfl⟩
  ·obtain⟨b,h4,h5⟩:=h.cls (i:=i+1) (by omega) hd.1 hd.2 h1
   exact⟨b,h4,h5⟩
  have h4:=h.hf j (by omega);have h5:=h.mono' 0 j (by omega) (by omega);have h6:=h.mono' (j+1) (i+1) (by omega) (by omega);exact⟨_,rfl,by omega,by omega⟩
 ·intro a x hb hx
  exact h.inn (i+1) hi a x hb.1 hb.2 hx
 ·intro a h1 h2;omega
 ·intro a x hd
  rw[oC h x a (i+2) (by omega),oC h x a (i+1) (by omega)]
  constructor
  ·rintro(h1|⟨j,h1,h2,h3,h4⟩)
   ·exact .inl (.inl h1)
   by_cases hj:j=i+1
   ·subst hj;exact .inr ⟨h3,h4⟩
   exact .inl (.inr ⟨j,h1,by omega,h3,h4⟩)
  rintro((h1|⟨j,h1,h2,h3⟩)|⟨h1,h2⟩)
  ·exact .inl h1
  ·exact .inr ⟨j,h1,by omega,h3⟩
  exact .inr ⟨i+1,by omega,by omega,h1,h2⟩
 intro a x hb;rw[oC h x a (i+2) (by omega)]
 constructor
 ·rintro(h1|⟨j,h1,h2,h3,h4⟩)
  ·exact .inl h1
  have h5:=h.hl (j-1) (by omega);have h6:=h.mono' (j-1+1) (i+1) (by omega) (by omega);omega
 rintro(h1|⟨-,⟨h1,-⟩|⟨h1,-⟩⟩)
 ·exact .inl h1
 ·cases h1
 cases h1
theorem K6(h:I5 s y Ls bd):∀i,i<Ls.length->∀w,gD (fB y.1 (i+1) y.2).e (y.1.getD 0 zP).f w (y.1.getD i zP).l↔q19 Ls (i+1) w
 |0,hi,w=>by
  have h1:gD (fB y.1 1 y.2).e (y.1.getD 0 zP).f w (y.1.getD 0 zP).l↔gD y.2.e (y.1.getD 0 zP).f w (y.1.getD 0 zP).l:=Iff.rfl;rw[h1,h.lang 0 hi];show _↔cat eps _ w;rw[R3]
 |i+1,hi,w=>by
  have ih:=K6 h i (by omega);have hE:=q4j h i hi;have h0:=h.hf 0 (by omega);simp only[qI]at h0;have m1:=h.mono' 1 (i+1) (by omega) (by omega);rw[hE.toL (h.lang (i+1) hi) (s:=(y.1.getD 0 zP).f) ⟨h0.1,by omega⟩];show cat _ (fun v=>if false=true then _ else _) w↔cat (q19 Ls (i+1)) (Ls.getD (i+1) tF) w;exact eF ih (fun v=>by simp) w
theorem q3a(h:I5 s y Ls bd)(hc:0<Ls.length):mP s (sV y.1,fB y.1 y.1.length y.2) (q19 Ls Ls.length):=by
 obtain⟨c,hc'⟩:∃c,Ls.length=c+1:=⟨Ls.length-1,by omega⟩;have hb0:=h.b0;have hbc:=h.bc;have hm:=oC h;have hf:=h.hf 0 (by omega);have hl:=h.hl c (by omega);have m1:=h.mono' 1 Ls.length (by omega) (qb _);have m2:=h.mono' 0 c (by omega) (by omega);have m3:=h.mono' 0 Ls.length (by omega) (qb _);simp only[qI]at hf;rw[hc']at hbc m1 m3;have hP:sV y.1=⟨(y.1.getD 0 zP).f,(y.1.getD c zP).l⟩:=by unfold sV;rw[h.len,hc'];rfl
 rw[hP,h.len,hc'];refine⟨by dsimp only;rw[gR];omega,fun a ha=>?_,by dsimp only;rw[gR];omega,by dsimp only;rw[gR];omega,mO fun x hx=>?_,fun a x h1 hx=>?_,fun a x h1 hx=>?_,fun w=>?_,?_⟩
 ·rw[<-h.old a ha]
  dsimp only
  have key:∀i,i<=Ls.length->Row (fB y.1 i y.2).e a=Row y.2.e a:=by
   intro i
   induction i with
   |zero=>intro _;rfl
   |succ i ih=>
    intro hi;rw[<-ih (by omega)];show Row (iff _ _ _).e a=_;unfold iff;split
    ·rename_i hp
     have hp:0<i:=by simpa using hp
     rw[lM,qv];rintro⟨e,-⟩;have:=h.hl (i-1) (by omega);have:=h.mono' 0 (i-1) (by omega) (by omega);omega
    rfl
  exact key (c+1) (by omega)
 ·dsimp only at hx
  rcases(hm x _ (c+1) (by omega)).1 hx with h1|⟨j,h1,h2,h3,-⟩
  ·rw[h.nol c (by omega)]at h1;cases h1
  have h4:=h.hl (j-1) (by omega);have h5:=h.mono' (j-1+1) c (by omega) (by omega);omega
 ·dsimp only at hx⊢
  rw[gR,<-hbc,<-hb0];rcases(hm x a (c+1) (by omega)).1 hx with h2|⟨j,h1,h2,h3,rfl⟩
  ·by_cases h3:a<bd (c+1)
   ·exact h.cls (by omega) (by omega) h3 h2
   rw[dU (by omega)]at h2;cases h2
  have h4:=h.hf j (by omega);have h5:=h.mono' 0 j (by omega) (by omega);have h6:=h.mono' (j+1) (c+1) (by omega) (by omega);exact⟨_,rfl,by omega,by omega⟩
 ·dsimp only at hx
  rcases(hm x a (c+1) (by omega)).1 hx with h2|⟨j,-,-,-,rfl⟩
  ·exact h.edq a x h1 h2
  exact iR _
 ·exact K6 h c (by omega) w
 dsimp only
 rw[q13,gR];exact h.rul
end
end Go.Cm
namespace Go.Cm
section
variable {s : St} {y : List Pc × St} {Ls : List Lng} {bd : Nat → Nat}
theorem R5(h:I5 s y Ls bd)(x:Ed)(a:Nat):∀i,i<=Ls.length->(x∈Row (cS (aN y.2) y.1 i (two y.2)).e a↔x∈Row y.2.e a\/∃j,j<i/\((a=y.2.e.length/\x=yT (y.1.getD j zP).f)\/(a=(y.1.getD j zP).l/\x=yT (y.2.e.length+1:Nat))))
 |0,_=>by
  rw[show Row (cS (aN y.2) y.1 0 (two y.2)).e a=Row y.2.e a from nO _ _];simp
 |i+1,hi=>by
  have ih:=R5 h x a i (by omega)
  have hl:(y.1.getD i zP).l<y.2.e.length:=by
   rw[<-h.bc];have:=(h.hl i (by omega)).2;have:=h.mono' (i+1) Ls.length (by omega) (qb _);omega
  show x∈Row (bM (y.1.getD i zP).l (y.2.e.length+1) (bM y.2.e.length (y.1.getD i zP).f _)).e a↔_;rw[pC (by rw[eQ,iX,m5];omega),pC (by simp),ih]
  constructor
  ·rintro(((h1|⟨j,h1,h2⟩)|⟨h1,h2⟩)|⟨h1,h2⟩)
   ·exact .inl h1
   ·exact .inr ⟨j,by omega,h2⟩
   ·exact .inr ⟨i,by omega,.inl ⟨h1,h2⟩⟩
   exact .inr ⟨i,by omega,.inr ⟨h1,h2⟩⟩
  rintro(h1|⟨j,h1,h2⟩)
  ·exact .inl (.inl (.inl h1))
  by_cases hj:j=i
  ·subst hj
   rcases h2 with h2|h2
   ·exact .inl (.inr h2)
   exact .inr h2
  exact .inl (.inl (.inr ⟨j,by omega,h2⟩))
theorem q92(h:I5 s y Ls bd)(n:Nat)(hn:n=y.2.e.length)(i:Nat)(hi:i<Ls.length):
  Ext (fun a=>(bd 0<=a/\a<bd i)\/a=n\/a=n+1) (fun a=>bd i<=a/\a<bd (i+1)) (cS (aN y.2) y.1 i (two y.2)).e y.2.e (cS (aN y.2) y.1 (i+1) (two y.2)).e (y.1.getD i zP).f (y.1.getD i zP).l n (n+1) true false:=by
 have hbc:=h.bc
 have hle:∀j,j<Ls.length->(y.1.getD j zP).l<n/\bd j<=(y.1.getD j zP).l/\(y.1.getD j zP).l<bd (j+1):=fun j hj=>by
  exact ZmE11
 have hbi:bd (i+1)<=n:=by have:=h.mono' (i+1) Ls.length (by omega) (qb _);omega
 have hnone:∀x,n<=x->Row y.2.e x=[]:=fun x hx=>dU (by omega);have hm:=fun x a=>R5 h x a i (by omega);have hm':=fun x a=>R5 h x a (i+1) (by omega);rw[<-hn]at hm hm';refine⟨?_,?_,?_,.inr (.inl rfl),h.hf i hi,h.hl i hi,fun _=>⟨.inr (.inr rfl),mO fun x hx=>?_,by omega⟩,?_,?_⟩
 ·intro a x hd hx
  rcases(hm x a).1 hx with h1|⟨j,h1,⟨h2,rfl⟩|⟨h2,rfl⟩⟩
  ·rcases hd with hd|hd
   ·obtain⟨b,h4,h5⟩:=h.cls (i:=i) (by omega) hd.1 hd.2 h1
    exact⟨b,h4,.inl h5⟩
   rw[hnone a (by omega)]at h1;cases h1
  ·have h4:=h.hf j (by omega)
   have h5:=h.mono' 0 j (by omega) (by omega);have h6:=h.mono' (j+1) i (by omega) (by omega);exact⟨_,rfl,.inl ⟨by omega,by omega⟩⟩
  exact⟨_,rfl,.inr (.inr rfl)⟩
 ·intro a x hb hx
  exact h.inn i hi a x hb.1 hb.2 hx
 ·intro a h1 h2;omega
 ·rcases(hm x _).1 hx with h1|⟨j,h1,⟨h2,-⟩|⟨h2,-⟩⟩
  ·rw[hnone _ (by omega)]at h1;cases h1
  ·omega
  have:=hle j (by omega);omega
 ·intro a x hd
  rw[hm' x a,hm x a]
  constructor
  ·rintro(h1|⟨j,h1,h2⟩)
   ·exact .inl (.inl h1)
   by_cases hj:j=i
   ·subst hj
    rcases h2 with h2|⟨h2,-⟩
    ·exact .inr h2
    have:=hle j hi;omega
   exact .inl (.inr ⟨j,by omega,h2⟩)
  rintro((h1|⟨j,h1,h2⟩)|h1)
  ·exact .inl h1
  ·exact .inr ⟨j,by omega,h2⟩
  exact .inr ⟨i,by omega,.inl h1⟩
 intro a x hb;rw[hm' x a]
 constructor
 ·rintro(h1|⟨j,h1,⟨h2,-⟩|⟨h2,h3⟩⟩)
  ·exact .inl h1
  ·omega
  by_cases hj:j=i
  ·subst hj;exact .inr ⟨h2,.inl ⟨rfl,h3⟩⟩
  have h4:=hle j (by omega);have h5:=h.mono' (j+1) i (by omega) (by omega);omega
 rintro(h1|⟨h1,⟨-,h2⟩|⟨h2,-⟩⟩)
 ·exact .inl h1
 ·exact .inr ⟨i,by omega,.inr ⟨h1,h2⟩⟩
 cases h2
theorem tH{e:List (List Ed)}{n:Nat}(h:Row e n=[]){w:List Nat}{a:Nat}(hp:gD e n w a):a=n/\w=[]:=by
 induction hp with
 |nil=>exact⟨rfl,rfl⟩
 |free _ k _ _ ih=>obtain⟨rfl,rfl⟩:=ih;rw[h]at k;cases k
 |byte _ k _ _ _ ih=>obtain⟨rfl,rfl⟩:=ih;rw[h]at k;cases k
theorem q1Y(h:I5 s y Ls bd)(n:Nat)(hn:n=y.2.e.length):∀i,i<=Ls.length->(∀w,gD (cS (aN y.2) y.1 i (two y.2)).e n w n↔w=[])/\(∀w,gD (cS (aN y.2) y.1 i (two y.2)).e n w (n+1)↔q70 Ls i w)
 |0,_=>by
  have h0:Row (cS (aN y.2) y.1 0 (two y.2)).e n=[]:=by show Row (two y.2).e n=[];rw[nO];exact dU (by omega)
  refine⟨fun w=>⟨fun hp=>(tH h0 hp).2,fun e=>e▸.nil⟩,fun w=>⟨fun hp=>?_,fun⟨j,hj,_⟩=>absurd hj (qC j)⟩⟩;have:=(tH h0 hp).1;omega
 |i+1,hi=>by
  obtain⟨ih1,ih2⟩:=q1Y h n hn i (by omega);have hE:=q92 h n hn i (by omega);have hL:=h.lang i (by omega);refine⟨fun w=>?_,fun w=>?_⟩
  ·rw[hE.old hL (.inr (.inl rfl)) (.inr (.inl rfl)) (fun e=>by omega),ih1]
  rw[hE.toZ hL (.inr (.inl rfl)) (.inr (.inr rfl)),ih2]
  constructor
  ·rintro(⟨j,h1,h2⟩|⟨-,u,v,rfl,h2,h3⟩)
   ·exact⟨j,by omega,h2⟩
   obtain rfl:=(ih1 u).1 h2;exact⟨i,by omega,by simpa[many_NtA]using h3⟩
  rintro⟨j,h1,h2⟩;by_cases hj:j=i
  ·subst hj;exact .inr ⟨rfl,[],w,rfl,.nil,by simpa[many_NtA]using h2⟩
  exact .inl ⟨j,by omega,h2⟩
theorem q72(h:I5 s y Ls bd):mP s (aN y.2,cS (aN y.2) y.1 y.1.length (two y.2)) (q70 Ls Ls.length):=by
 have hb0:=h.b0;have hbc:=h.bc;have hm:=fun x a=>R5 h x a Ls.length (qb _);have m3:=h.mono' 0 Ls.length (by omega) (qb _);have hP:=q1Y h _ rfl Ls.length (qb _);rw[h.len];have hlen:(cS (aN y.2) y.1 Ls.length (two y.2)).e.length=y.2.e.length+2:=by rw[iX,m5]
 have hle:∀j,j<Ls.length->(y.1.getD j zP).l<y.2.e.length/\bd j<=(y.1.getD j zP).l:=fun j hj=>by
  exact ZmE11
 refine⟨by dsimp only;omega,fun a ha=>?_,by dsimp only;rw[hlen];dsimp only[aN];omega,by dsimp only;rw[hlen];dsimp only[aN];omega,mO fun x hx=>?_,fun a x h1 hx=>?_,fun a x h1 hx=>?_,hP.2,?_⟩
 ·dsimp only
  rw[<-h.old a ha]
  have key:∀i,i<=Ls.length->Row (cS (aN y.2) y.1 i (two y.2)).e a=Row y.2.e a:=by
   intro i
   induction i with
   |zero=>intro _;exact nO _ _
   |succ i ih=>
    intro hi;rw[<-ih (by omega)];show Row (bM _ _ (bM y.2.e.length _ _)).e a=_;have:=hle i (by omega);have:=h.mono' 0 i (by omega) (by omega);rw[lM,qv (fun hh=>by omega),lM,qv (fun hh=>by omega)]
  exact key _ (qb _)
 ·dsimp only[aN]at hx
  rcases(hm x _).1 hx with h1|⟨j,h1,⟨h2,-⟩|⟨h2,-⟩⟩
  ·rw[dU (by omega)]at h1;cases h1
  ·omega
  have:=hle j h1;omega
 ·dsimp only at hx⊢
  rw[hlen];rcases(hm x a).1 hx with h2|⟨j,h1,⟨h2,rfl⟩|⟨h2,rfl⟩⟩
  ·by_cases h3:a<bd Ls.length
   ·obtain⟨b,h4,h5⟩:=h.cls (qb _) (by omega) h3 h2
    exact⟨b,h4,by omega⟩
   rw[dU (by omega)]at h2;cases h2
  ·have h4:=h.hf j (by omega)
   have h5:=h.mono' 0 j (by omega) (by omega);have h6:=h.mono' (j+1) Ls.length (by omega) (qb _);exact⟨_,rfl,by omega,by omega⟩
  exact⟨_,rfl,by omega,by omega⟩
 ·dsimp only at hx
  rcases(hm x a).1 hx with h2|⟨j,-,⟨-,rfl⟩|⟨-,rfl⟩⟩
  ·exact h.edq a x h1 h2
  ·exact iR _
  exact iR _
 dsimp only
 rw[q8U,hlen];have h1:(two y.2).r=y.2.r++[-1,-1]:=by simp[two,dR]
 rw[h1,h.rul,qk]
 congr 1
 have:y.2.e.length+2-s.e.length=(y.2.e.length-s.e.length)+2:=by omega
 rw[this,<-List.replicate_append_replicate]
 rfl
end
theorem uG(L:Lng)(a:Nat):∀(b:Nat) (w:List Nat),uF L (a+b) w↔cat (uF L a) (uF L b) w
 |0,w=>(zZ _ w).symm
 |b+1,w=>by
  show cat (uF L (a+b)) L w↔cat (uF L a) (cat (uF L b) L) w;rw[eF (uG L a b) (fun _=>Iff.rfl),Y5]
structure qb5(s:St)(x:Nd)(t:Nat)(L:Lng)(i:Nat)(y:Nat×St):Prop where
 grow:s.e.length+2<=y.2.e.length
 old:∀a,a<s.e.length->Row y.2.e a=Row s.e a
 inn:∀a x,s.e.length<=a->x∈Row y.2.e a->∃b:Nat,x.tgt=b/\s.e.length<=b/\b<y.2.e.length
 edq:∀a x,s.e.length<=a->x∈Row y.2.e a->EdQ x
 hat:s.e.length<=y.1/\y.1<y.2.e.length/\y.1≠s.e.length+1
 nol:Row y.2.e (s.e.length+1)=[]
 pat:(i<t\/0<=x.hi)->∀w,gD y.2.e s.e.length w y.1↔uF L i w
 pz:∀w,gD y.2.e s.e.length w (s.e.length+1)↔(∃k:Nat,k<=i/\x.lo<=k/\uF L k w)\/(i=t/\x.hi<0/\0<t/\cat (uF L (t-1)) (q6L L) w)
 rul:y.2.r=s.r++List.replicate (y.2.e.length-s.e.length) (-1)
theorem q73(s:St)(x:Nd)(hx:0<=x.lo)(t:Nat)(L:Lng):qb5 s x t L 0 ((aN s).f,iff (decide (x.lo=0)) (bM (aN s).f (aN s).l) (two s)):=by
 have hm:∀a z,z∈Row (iff (decide (x.lo=0)) (bM (aN s).f (aN s).l) (two s)).e a↔z∈Row s.e a\/(x.lo=0/\a=s.e.length/\z=yT (s.e.length+1:Nat)):=fun a z=>by
  rw[tG (by simp[aN]),nO];simp[aN]
 have h1:Row s.e s.e.length=[]:=dU (qb _);have h2:Row s.e (s.e.length+1)=[]:=dU (by omega)
 have hr2:Row (iff (decide (x.lo=0)) (bM (aN s).f (aN s).l) (two s)).e (s.e.length+1)=[]:=mO fun z hz=>by
  rcases(hm _ z).1 hz with h|h
  ·rw[h2]at h;cases h
  omega
 have key:∀w a,gD (iff (decide (x.lo=0)) (bM (aN s).f (aN s).l) (two s)).e s.e.length w a->(a=s.e.length/\w=[])\/(a=s.e.length+1/\x.lo=0/\w=[]):=by
  intro w a hp
  induction hp with
  |nil=>exact .inl ⟨rfl,rfl⟩
  |free h0 k1 k2 k3 ih=>
   rcases ih with⟨rfl,rfl⟩|⟨rfl,-⟩
   ·rcases(hm _ _).1 k1 with h|⟨h3,-,rfl⟩
    ·rw[h1]at h;cases h
    exact .inr ⟨(jr k3).symm,h3,rfl⟩
   rw[hr2]at k1;cases k1
  |byte h0 k1 k2 k3 k4 ih=>
   rcases ih with⟨rfl,rfl⟩|⟨rfl,-⟩
   ·rcases(hm _ _).1 k1 with h|⟨h3,-,rfl⟩
    ·rw[h1]at h;cases h
    cases k2
   rw[hr2]at k1;cases k1
 refine⟨by simp,fun a ha=>?_,fun a z ha hz=>?_,fun a z ha hz=>?_,by dsimp only[aN];simp,hr2,fun _ w=>?_,fun w=>?_,?_⟩
 ·dsimp only
  unfold iff;split
  ·rw[lM,qv (fun hh=>by simp[aN]at hh;omega),nO]
  exact nO _ _
 ·rcases(hm a z).1 hz with h|⟨-,-,rfl⟩
  ·rw[dU ha]at h;cases h
  exact⟨_,rfl,by omega,by simp⟩
 ·rcases(hm a z).1 hz with h|⟨-,-,rfl⟩
  ·rw[dU ha]at h;cases h
  exact iR _
 ·show gD _ s.e.length w s.e.length↔w=[]
  constructor
  ·intro hp
   rcases key w _ hp with⟨-,h⟩|⟨h,-⟩
   ·exact h
   omega
  rintro rfl;exact .nil
 ·dsimp only
  constructor
  ·intro hp
   rcases key w _ hp with⟨h,-⟩|⟨-,h3,rfl⟩
   ·omega
   exact .inl ⟨0,qb _,by omega,rfl⟩
  rintro(⟨k,hk,h3,h4⟩|⟨h3,h4,h5,-⟩)
  ·obtain rfl:k=0:=by omega
   obtain rfl:w=[]:=h4;exact gD.one ((hm _ _).2 (.inr ⟨by omega,rfl,rfl⟩)) rfl rfl
  omega
 dsimp only
 have h3:∀b:Bool,(iff b (bM (aN s).f (aN s).l) (two s)).r=s.r++[-1,-1]:=fun b=>by cases b<;>simp[iff,bM,two,dR]
 have h4:∀b:Bool,(iff b (bM (aN s).f (aN s).l) (two s)).e.length-s.e.length=2:=fun b=>by simp
 rw[h3,h4]
 rfl
theorem q74{s:St}{x:Nd}{t:Nat}{L:Lng}{i:Nat}{y:Nat×St}(hi:i<t)(hlo:x.hi<0->x.lo<=t)(h:qb5 s x t L i y){part:St->Pc×St}(hq:mP y.2 (part y.2) L):qb5 s x t L (i+1) (Q6 x t (aN s) part i y):=by
 obtain⟨at_,u⟩:=y;unfold Q6
 dsimp only at hq h⊢
 generalize part u=qs at*;obtain⟨q,v⟩:=qs;have hgr:=h.grow;have hat:=h.hat;have hgq:=hq.grow;have hqf:=hq.hf;have hql:=hq.hl
 dsimp only at hgr hat hgq hqf hql⊢
 obtain⟨c1,hc1⟩:∃c1,c1=decide (x.lo<=(i:Int)+1):=⟨_,rfl⟩;obtain⟨c2,hc2⟩:∃c2,c2=decide (x.hi<0/\i+1=t):=⟨_,rfl⟩;rw[<-hc1,<-hc2];obtain⟨n,hn⟩:∃n,n=s.e.length:=⟨_,rfl⟩;have hp:aN s=⟨n,n+1⟩:=by rw[hn];rfl
 rw[hp]
 dsimp only
 obtain⟨e',he'⟩:∃e',e'=iff c2 (bM q.l q.f) (iff c1 (bM q.l (n+1)) (bM at_ q.f v)):=⟨_,rfl⟩;rw[<-he'];have hlen:e'.e.length=v.e.length:=by rw[he'];simp
 have hm:∀a z,z∈Row e'.e a↔((z∈Row v.e a\/(a=at_/\z=yT q.f))\/(c1=true/\a=q.l/\z=yT (n+1:Nat)))\/(c2=true/\a=q.l/\z=yT q.f):=fun a z=>by
  rw[he',tG (by simp;omega),tG (by simp;omega),pC (by omega)]
 have hE:Ext (fun a=>n<=a/\a<u.e.length) (fun a=>u.e.length<=a/\a<v.e.length) u.e v.e e'.e q.f q.l at_ (n+1) c1 c2:=by
  refine⟨?_,?_,?_,by omega,hqf,hql,fun _=>⟨by omega,by rw[hn];exact h.nol,by omega⟩,?_,?_⟩
  ·intro a z hd hz
   obtain⟨b,h1,h2⟩:=h.inn a z (by omega) hz;exact⟨b,h1,by dsimp only at h2;omega⟩
  ·intro a z hb hz
   exact hq.inn a z hb.1 hz
  ·intro a h1 h2;omega
  ·intro a z hd
   have h0:Row v.e a=Row u.e a:=hq.old a hd.2;have h1:a≠q.l:=by omega
   rw[hm,h0];simp only[h1,false_and,and_false,or_false]
  intro a z hb;have h1:a≠at_:=by omega
  rw[hm];simp only[h1,false_and,or_false]
  constructor
  ·rintro((h2|⟨h2,h3,h4⟩)|⟨h2,h3,h4⟩)
   ·exact .inl h2
   ·exact .inr ⟨h3,.inl ⟨h2,h4⟩⟩
   exact .inr ⟨h3,.inr ⟨h2,h4⟩⟩
  rintro(h2|⟨h2,⟨h3,h4⟩|⟨h3,h4⟩⟩)
  ·exact .inl (.inl h2)
  ·exact .inl (.inr ⟨h3,h2,h4⟩)
  exact .inr ⟨h3,h2,h4⟩
 have hL:=hq.lang
 dsimp only at hL
 have hs:n<=n/\n<u.e.length:=by omega
 have qf1:=h.pat (.inl hi);rw[<-hn]at qf1;have hpz:=h.pz;rw[<-hn]at hpz
 dsimp only at qf1 hpz
 refine⟨by dsimp only;omega,fun a ha=>?_,fun a z ha hz=>?_,fun a z ha hz=>?_,by dsimp only;omega,?_,fun hc w=>?_,fun w=>?_,?_⟩
 ·dsimp only
  rw[<-h.old a ha]
  dsimp only
  rw[<-show Row v.e a=Row u.e a from hq.old a (by omega),he']
  have key:∀(b:Bool) (i to_:Nat) (u:St),a≠i->Row (iff b (bM i to_) u).e a=Row u.e a:=fun b i to_ u hne=>by
   exact ZmE10
  rw[key _ _ _ _ (by omega),key _ _ _ _ (by omega),lM,qv (fun hh=>by omega)]
 ·dsimp only at hz⊢
  rw[<-hn]at ha⊢;by_cases hlt:a<v.e.length
  ·obtain⟨b,h1,h2⟩:=hE.closed a z (by omega) hz
   exact⟨b,h1,by omega⟩
  rw[dU (by omega)]at hz;cases hz
 ·dsimp only at hz
  rw[hm]at hz;rcases hz with((hz|⟨-,rfl⟩)|⟨-,-,rfl⟩)|⟨-,-,rfl⟩
  ·by_cases h3:a<u.e.length
   ·have h0:Row v.e a=Row u.e a:=hq.old a h3
    rw[h0]at hz;exact h.edq a z ha hz
   exact hq.edq a z (by omega) hz
  ·exact iR _
  ·exact iR _
  exact iR _
 ·dsimp only
  rw[<-hn];refine mO fun z hz=>?_;rcases(hE.dro (n+1) z (by omega)).1 hz with h1|⟨h1,-⟩
  ·rw[hn,h.nol]at h1;cases h1
  omega
 ·dsimp only
  rw[<-hn,hE.toL hL hs];have hcf:c2=false:=by rw[hc2];simp;omega
  rw[hcf];show cat _ (fun v=>if false=true then _ else _) w↔cat (uF L i) L w;exact eF qf1 (fun v=>by simp) w
 ·dsimp only
  rw[<-hn,hE.toZ hL hs (by omega),hpz];have hnt:¬(i=t):=by omega
  simp only[hnt,false_and,or_false];by_cases hc:x.hi<0/\i+1=t
  ·have e2:c2=true:=by rw[hc2];exact qz hc
   have e1:c1=true:=by rw[hc1];refine qz ?_;have:=hlo hc.1;omega
   rw[e1,e2];have qfl:cat (fun u_1=>gD u.e n u_1 at_) (many_NtA true L) w↔cat (uF L i) (q6L L) w:=eF qf1 (fun v=>by simp[many_NtA]) w;rw[qfl];have ht1:t-1=i:=by omega
   rw[ht1]
   constructor
   ·rintro(⟨k,h1,h2⟩|⟨-,h2⟩)
    ·exact .inl ⟨k,by omega,h2⟩
    exact .inr ⟨hc.2,hc.1,by omega,h2⟩
   rintro(⟨k,h1,h2,h3⟩|⟨-,-,-,h2⟩)
   ·by_cases hk:k<=i
    ·exact .inl ⟨k,hk,h2,h3⟩
    obtain rfl:k=i+1:=by omega
    obtain⟨a,b,rfl,h4,h5⟩:=h3;exact .inr ⟨rfl,a,b,rfl,h4,q1X h5⟩
   exact .inr ⟨rfl,h2⟩
  have e2:c2=false:=by rw[hc2];exact qx hc
  rw[e2];have qfl:cat (fun u_1=>gD u.e n u_1 at_) (many_NtA false L) w↔uF L (i+1) w:=eF qf1 (fun v=>by simp[many_NtA]) w;rw[qfl]
  constructor
  ·rintro(⟨k,h1,h2⟩|⟨h1,h2⟩)
   ·exact .inl ⟨k,by omega,h2⟩
   rw[hc1]at h1;exact .inl ⟨i+1,qb _,by have:=jc h1;omega,h2⟩
  rintro(⟨k,h1,h2,h3⟩|⟨h1,h2,-⟩)
  ·by_cases hk:k<=i
   ·exact .inl ⟨k,hk,h2,h3⟩
   obtain rfl:k=i+1:=by omega
   exact .inr ⟨by rw[hc1];exact qz (by omega),h3⟩
  exact absurd ⟨h2,h1⟩ hc
 dsimp only
 have h1:e'.r=v.r:=by
  rw[he'];have key:∀(b:Bool) (i to_:Nat) (u:St),(iff b (bM i to_) u).r=u.r:=fun b i to_ u=>by cases b<;>rfl
  rw[key,key];rfl
 rw[h1,hlen,hq.rul,h.rul,qk,List.replicate_append_replicate]
 congr 2
 dsimp only
 omega
end Go.Cm
namespace Go.Cm
open Go.RowKit Go.Proofs
abbrev MkT(w:World)(S:Nat->Prop)(g q:Nat)(s:St)(F:Int):Prop:=MkW w S g q s.e s.r F
section
variable {w w' : World} {S : Nat → Prop} {g q : Nat} {s : St} {F : Int}
theorem MkW.f3{ll:List (List Ed)}{rl:List Int}(h:MkW w S g q ll rl F):w.cell? ⟨g,3,none⟩=some (.func (.func 52) #[] #[.pointer (some ⟨q,0,none⟩)]):=by
 obtain⟨ve,vs,vr,h1,rfl⟩:=h;exact h1.c3
theorem MkW.f4{ll:List (List Ed)}{rl:List Int}(h:MkW w S g q ll rl F):w.cell? ⟨g,4,none⟩=some (.func (.func 53) #[] #[.pointer (some ⟨q,0,none⟩)]):=by
 obtain⟨ve,vs,vr,h1,rfl⟩:=h;exact h1.c4
theorem MkW.glt{ll:List (List Ed)}{rl:List Int}(h:MkW w S g q ll rl F):g<w.heap.size:=by
 obtain⟨ve,vs,vr,h1,rfl⟩:=h;exact h1.lt
theorem MkW.no{ll:List (List Ed)}{rl:List Int}(h:MkW w S g q ll rl F){p:Nat}(hp:w.heap.size<=p):¬S p:=fun e=>by
 have:=h.lt e;omega
end
theorem MkW.gq{w:World}{S:Nat->Prop}{g q:Nat}{ll:List (List Ed)}{rl:List Int}{F:Int}(h:MkW w S g q ll rl F):q<w.heap.size/\¬S q:=by
 obtain⟨ve,vs,vr,h1,rfl⟩:=h;exact⟨h1.hql,h1.mq⟩
theorem MkW.keep{w w':World}{S:Nat->Prop}{g q:Nat}{ll:List (List Ed)}{rl:List Int}{F:Int}(h:MkW w S g q ll rl F){p:Nat}(hg:w.grownBy w' (some p))(hp:¬S p)(hq:p≠q):MkW w' S g q ll rl F:=by
 obtain⟨ve,vs,vr,h1,rfl⟩:=h;refine⟨ve,vs,vr,h1.keep hg (fun j k hj e=>?_),rfl⟩;obtain rfl:=qr e;rcases jG j with h0|h0
 ·subst h0;exact hq (qr (qr hj)).symm
 refine hp ?_;rcases j with _|_|_|_|j
 ·omega
 ·exact .inl (qr (qr hj)).symm
 ·exact .inr (.inl (by simpa[mkL]using hj))
 ·exact .inr (.inr (.inl (by simpa[mkL]using hj)))
 by_cases hjl:j<vs.length
 ·rw[pZ _ _ _ _ _ j hjl]at hj
  exact .inr (.inr (.inr ⟨j,hjl,qr hj⟩))
 simp[mkL,qQ (show vs.length<=j by omega)]at hj
theorem Gw.new {S S1 : Nat → Prop} {w w1 w2 : World} (h : Gw S w S1 w1) {p : Nat} (hg : w1.grownBy w2 (some p)) (hp : w.heap.size ≤ p) : Gw S w S1 w2 :=
  ⟨⟨hg.os.trans h.fx.os, hg.tape.trans h.fx.tape, hg.output.trans h.fx.output, qc h.fx.size hg.size, fun k hk h1 => by
    rw [hg.block k (qe hk h.fx.size) (fun e => by have := qr e; omega), h.fx.block k hk h1]⟩, h.sub⟩
theorem Own.of_blk_NfQ{w w':World}{B E:Nat}{v:Value}{xs:List Value}(h:Own w B E v xs)(hb:∀k,v.ownBlock=some k->w'.heap[k]? =w.heap[k]?):Own w' B E v xs:=by
 refine⟨⟨h.1.1,h.1.2.imp id ?_⟩,h.2⟩;rintro⟨g,cap,cur,rfl,h2,h3,h4⟩;exact⟨g,cap,cur,rfl,h2,by rw[hb g rfl];exact h3,h4⟩
theorem Gw.own{S S1:Nat->Prop}{w w1:World}(h:Gw S w S1 w1){B E:Nat}{v:Value}{xs:List Value}(ho:Own w B E v xs)(hv:∀k,v.ownBlock=some k->¬S k):Own w1 B E v xs:=
 ho.of_blk_NfQ fun k hk=>h.fx.block k (ho.lt k hk).2 (hv k hk)
structure PcB(w:World)(p:Nat)(f l:Int):Prop where
 own:Own w p 80 (.slice (some ⟨p,0,none⟩) 2 2) [.int .i64 f,.int .i64 l]
section
variable {w w' : World} {p : Nat} {f l : Int}
theorem PcB.c0(h:PcB w p f l):w.cell? ⟨p,0,none⟩=some (.int .i64 f):=h.own.cell (by simp)
theorem PcB.c1(h:PcB w p f l):w.cell? ⟨p,1,none⟩=some (.int .i64 l):=h.own.cell (by simp)
theorem PcB.free(h:PcB w p f l)(c:Nat):w.frozen? ⟨p,c,none⟩=false:=h.own.free c
theorem PcB.lt(h:PcB w p f l):p<w.heap.size:=h.own.blk.2
theorem PcB.up(h:PcB w p f l)(hb:Below w.heap.size w w'):PcB w' p f l:=⟨h.own.up hb⟩
theorem PcB.gw{S S1:Nat->Prop}(h:PcB w p f l)(hg:Gw S w S1 w')(hn:¬S p):PcB w' p f l:=⟨hg.own h.own (fun k hk=>by injection hk with hk;subst hk;exact hn)⟩
theorem PcB.keep(h:PcB w p f l){row:Option Nat}(hg:w.grownBy w' row)(hne:row≠some p):PcB w' p f l:=⟨h.own.keep hg (.inr (fun e=>hne e.symm))⟩
theorem PcB.set(h:PcB w p f l)(a b:Int):PcB ((w.setCell ⟨p,0,none⟩ (.int .i64 a)).setCell ⟨p,1,none⟩ (.int .i64 b)) p a b/\w.grownBy ((w.setCell ⟨p,0,none⟩ (.int .i64 a)).setCell ⟨p,1,none⟩ (.int .i64 b)) (some p):=by
 obtain⟨h1,h2⟩:=h.own.store 0 (.int .i64 a);obtain⟨h3,h4⟩:=h1.store 1 (.int .i64 b);exact⟨⟨h3⟩,aL h2 h4⟩
theorem fO(w:World)(f l:Int):PcB (w.alloc (.cells #[.int .i64 f,.int .i64 l] 80)) w.heap.size f l:=
 ⟨by have h:=cN w w.heap.size #[.int .i64 f,.int .i64 l] 80 (by simp) (qb _);simpa using h⟩
theorem PcB.load(h:PcB w p f l):(loadVar 80 ⟨p,0,none⟩).run prog w=.ok (.agg #[.int .i64 f,.int .i64 l]) w:=
 hJ w p 0 2 80 #[.int .i64 f,.int .i64 l] _ (fun c hc=>by
  rcases(show c=0\/c=1 by omega)with rfl|rfl
  ·exact h.c0
  exact h.c1) rfl underlying80 rfl (by kernel_rfl)
end
theorem yH{P:Program}{fn:Func}{tmps:Array Value}{w:World}{a t:Nat}{ad:Addr}{v:Value}(hf:fn.results=#[.cell a t])(ha:tmps.getD a undef=.pointer (some ad))(hl:(loadVar t ad).run P w=.ok v w):
  (results fn tmps).run P w=.ok v w:=by
 have ha':tmps[a]?.getD undef=.pointer (some ad):=by simpa using ha
 simp[results,hf,asAddr,ha',hl]
theorem cI{P:Program}{fn:Func}{tmps:Array Value}{w:World}{ds:List Deferred}{s t:Nat}{ad:Addr}{x:Value}{R:Ending->World->Prop}(hf:fn.results=#[.cell s t])(ha:tmps.getD s undef=.pointer (some ad))(hd:ds=[])
  (hl:(loadVar t ad).run P w=.ok x w) (h:R (.returned x) w):bodyPost P fn R .ret ⟨tmps,ds⟩ w:=
 bodyPost_ret (v:=x) (yH hf ha hl) hd h
theorem wP{w:World}{S:Nat->Prop}{g q:Nat}{s:St}{F:Int}(h:MkT w S g q s F)(hl:s.e.length<=10000)(hr:s.r.length<=10000)(n m:Nat)(hn:n=s.e.length)(hm:m=s.e.length+1):
  Calls prog 55 #[.pointer (some ⟨g,0,none⟩)] w fun e w'=>e=.returned (.agg #[.int .i64 n,.int .i64 m])/\∃S',MkT w' S' g q (two s) F/\Gw S w S' w':=by
 have HM:=qa h;have hg:=h.glt;have hc3:=h.f3;have hno:=h.no (qb _);have HM0:=qa (h.up (aD w (.cells #[.int .i64 0,.int .i64 0] 80)));have HN:=qa hn;have HMM:=qa hm;have hnb:n<=10000:=by omega
 clear h hn hm;go_enter func55,ntmps55;have HP0:=qa (fO w 0 0)
 go_wp2_with(with_reducible (go_at_call 52);first|(refine(q4k HM0.o (by omega) (by omega)).mono ?_;rintro en w1 ⟨rfl,S1,hm1,hg1⟩;have HM1:=qa hm1;have HG1:=qa hg1;have qmq:=hm1.f3;have qm5:=hm1.glt;clear hm1 hg1)|(refine(q4k HM1.o (by rw[qj];simp;omega) (by rw[qj];simp;omega)).mono ?_;rintro en w2 ⟨rfl,S2,hm2,hg2⟩;have HM2:=qa hm2;have HG2:=qa (HG1.o.trans hg2);(have HP2:=qa (HP0.o.gw (HG1.o.trans hg2) hno));(have hc0:=HP2.o.c0);(have hc1:=HP2.o.c1);(have hf0:=HP2.o.free 0);(have hf1:=HP2.o.free 1);(have hpl:=HP2.o.lt);clear hm2 hg2))
 have HST:=qa (HP2.o.set (s.e.length:Nat) ((s.e.length:Nat)+1));have hgq:=HM.o.gq;refine cI rfl rfl rfl HST.o.1.load ?_;refine⟨by rw[HN.o,HMM.o];rfl,S2,?_,((d7 S (aD w _)).trans HG2.o).new HST.o.2 (qb _)⟩;exact HM2.o.keep HST.o.2 (HG2.o.out (by simp) hno) (by omega)
structure LB(w:World)(S:Nat->Prop)(p:Nat)(f l:Int):Prop where
 box:PcB w p f l
 no:¬S p
theorem LB.gw{S S1:Nat->Prop}{w w':World}{p:Nat}{f l:Int}(h:LB w S p f l)(hg:Gw S w S1 w'):LB w' S1 p f l:=⟨h.box.gw hg h.no,hg.out h.box.lt h.no⟩
theorem LB.up{S:Nat->Prop}{w w':World}{p:Nat}{f l:Int}(h:LB w S p f l)(hb:Below w.heap.size w w'):LB w' S p f l:=⟨h.box.up hb,h.no⟩
theorem pV{w:World}{S:Nat->Prop}{g q:Nat}{s:St}{F:Int}(h:MkT w S g q s F)(i tgt:Nat)(hi:i<s.e.length)(ht:tot s.e<=900000)(hl:s.e.length<=10000):
  Calls prog 53 #[.int .i64 i,.int .i64 tgt,.pointer (some ⟨q,0,none⟩)] w fun e w'=>e=.returned (.tuple #[])/\∃S',MkT w' S' g q (bM i tgt s) F/\Gw S w S' w':=
 qbe h i tgt hi (qc (q36 s.e i) (by omega)) (by omega)
theorem aP(w:World):Below w.heap.size w w.drew:=gQ (qn _ _)
theorem q93{w:World}{S:Nat->Prop}{g q:Nat}{s:St}{F:Int}(h:MkT w S g q s F)(hl:s.e.length<=9000)(hr:s.r.length<=9000)(ht:tot s.e<=800000)(o a:Bool)(f l:Nat)(_hf:f<s.e.length)(hll:l<s.e.length)(n m:Nat)(hn:n=s.e.length)(hm:m=s.e.length+1):
  Calls prog 58 #[.pointer (some ⟨g,0,none⟩),.bool o,.bool a,.agg #[.int .i64 f,.int .i64 l]] w fun e w'=>e=.returned (.agg #[.int .i64 n,.int .i64 m])/\∃S',MkT w' S' g q (m4 o a ⟨f,l⟩ s) F/\Gw S w S' w':=by
 have HM:=qa h;have hg:=h.glt;have hgq:=h.gq;have hno:=h.no (qb _);have qdV:=h.no (jd _);have qiS:=qa (fO w f l);have HMA:=qa ((h.up (aD w (.cells #[.int .i64 f,.int .i64 l] 80))).up (aD _ (.cells #[.int .i64 0,.int .i64 0] 80)));have HQP:=qa (qiS.o.up (aD _ (.cells #[.int .i64 0,.int .i64 0] 80)))
 have HRP:Hid (PcB ((w.alloc (.cells #[.int .i64 f,.int .i64 l] 80)).alloc (.cells #[.int .i64 0,.int .i64 0] 80)) (w.heap.size+1) 0 0):=qa (by
  have h:=fO (w.alloc (.cells #[.int .i64 f,.int .i64 l] 80)) 0 0;simpa using h)
 have HAR:=qa (wP HMA.o (by omega) (by omega) n m hn hm);have HLS:Hid (m4 o a ⟨f,l⟩ s=iff a (bM l f) (iff o (bM n m) (bM l m (bM n f (two s))))):=qa (by unfold m4;simp only[aN];rw[<-hm,<-hn]);have T2:=r5 s;have L2:=m5 s;have hGA:Gw S w S ((w.alloc (.cells #[.int .i64 f,.int .i64 l] 80)).alloc (.cells #[.int .i64 0,.int .i64 0] 80)):=d7 S ((aD w _).trans ((aD _ _).mono (by simp)));have HGA:=qa hGA;have hsA:((w.alloc (.cells #[.int .i64 f,.int .i64 l] 80)).alloc (.cells #[.int .i64 0,.int .i64 0] 80)).heap.size=w.heap.size+2:=by simp
 clear h qiS hGA;obtain⟨s0,hs0⟩:∃s0,s0=two s:=⟨_,rfl⟩;rw[<-hs0]at T2 L2 HAR HLS;have HL0:Hid (s0.e.length=s.e.length+2/\tot s0.e=tot s.e):=qa ⟨L2,T2⟩;have hnb:n<=9000:=by omega
 have hmb:m<=9001:=by omega
 have HB:Hid (n<s0.e.length/\l<s0.e.length/\s0.e.length<=9002/\tot s0.e<=800000):=qa ⟨by omega,by omega,by omega,by omega⟩;clear hs0 T2 L2 hn hm _hf hll hl hr ht;go_enter func58,ntmps58
 go_wp2_with((with_reducible go_at_call 55);refine HAR.o.mono ?_;rintro en w1 ⟨rfl,S1,hm1,hg1⟩;have HM1:=qa hm1;have HG1:=qa hg1;clear hm1 hg1)
 have HM2:=qa (HM1.o.up (aD w1 (.cells #[.int .i64 n,.int .i64 m] 80)));have P92:Hid (LB (w1.alloc (.cells #[.int .i64 n,.int .i64 m] 80)) S1 w1.heap.size n m):=qa ⟨fO w1 n m,HM1.o.no (qb _)⟩;have P72:Hid (LB (w1.alloc (.cells #[.int .i64 n,.int .i64 m] 80)) S1 w.heap.size f l):=qa ((LB.mk HQP.o hno).gw HG1.o |>.up (aD w1 _));have P82:Hid (LB (w1.alloc (.cells #[.int .i64 n,.int .i64 m] 80)) S1 (w.heap.size+1) 0 0):=qa ((LB.mk HRP.o qdV).gw HG1.o |>.up (aD w1 _));have HG2:Hid (Gw S w S1 (w1.alloc (.cells #[.int .i64 n,.int .i64 m] 80))):=qa ((HGA.o.trans HG1.o).up (aD w1 _));have hp9:w.heap.size+2<=w1.heap.size:=by have:=HG1.o.size;omega
 generalize w1.heap.size=p9 at*;generalize w1.alloc (.cells #[.int .i64 n,.int .i64 m] 80)=w2 at*;clear HM1 HG1 HGA HQP HRP HMA HAR hsA hno qdV;obtain⟨hb1,hb2,hb3,hb4⟩:=HB.o;have hc4:=HM2.o.f4;have hgl:=HM2.o.glt;have P7a:=P72.o.box.c0;have P7b:=P72.o.box.c1;have P7l:=P72.o.box.lt;have P8a:=P82.o.box.c0;have P8b:=P82.o.box.c1;have P8l:=P82.o.box.lt;have P9a:=P92.o.box.c0;have P9b:=P92.o.box.c1;have P9l:=P92.o.box.lt;go_wp2;refine aR [0,1,2,3,4,5,6,7] [] [8] (by kernel_rfl) (by kernel_rfl) ?_;simp only[pk]
 repeat(go_big_quiet_step (fail))
 refine wpQuiet_nil ?_;unfold aF;unfold aF
 go_wp2_with((with_reducible go_at_call 53);refine(pV (HM2.o.up (aP _)) n f hb1 (by omega) (by omega)).mono ?_;rintro en w3 ⟨rfl,S3,hm,hg⟩;have HM3:=qa hm;have HG3:=qa ((HG2.o.up (aP _)).trans hg);have P73:=qa ((P72.o.up (aP _)).gw hg);have P83:=qa ((P82.o.up (aP _)).gw hg);have P93:=qa ((P92.o.up (aP _)).gw hg);clear hm hg)
 refine⟨trivial,?_⟩;unfold aF;clear hc4 hgl P7a P7b P7l P8a P8b P8l P9a P9b P9l HM2 HG2 P72 P82 P92;have t3:=eE n f s0;have l3:=eQ n f s0;obtain⟨s3,hs3⟩:∃s3,s3=bM n f s0:=⟨_,rfl⟩;rw[<-hs3]at t3 l3 HM3 HLS;clear hs3;have hc4:=HM3.o.f4;have hgl:=HM3.o.glt;have P7a:=P73.o.box.c0;have P7b:=P73.o.box.c1;have P7l:=P73.o.box.lt;have P8a:=P83.o.box.c0;have P8b:=P83.o.box.c1;have P8l:=P83.o.box.lt;have P9a:=P93.o.box.c0;have P9b:=P93.o.box.c1;have P9l:=P93.o.box.lt;go_wp2;refine aR [0,1,2,3,4,5,6,7] [] [8] (by kernel_rfl) (by kernel_rfl) ?_;simp only[pk]
 repeat(go_big_quiet_step (fail))
 refine wpQuiet_nil ?_;unfold aF;unfold aF
 go_wp2_with((with_reducible go_at_call 53);refine(pV (HM3.o.up (aP _)) l m (by omega) (by omega) (by omega)).mono ?_;rintro en w4 ⟨rfl,S4,hm,hg⟩;have HM4:=qa hm;have HG4:=qa ((HG3.o.up (aP _)).trans hg);have P74:=qa ((P73.o.up (aP _)).gw hg);have P84:=qa ((P83.o.up (aP _)).gw hg);have P94:=qa ((P93.o.up (aP _)).gw hg);clear hm hg)
 refine⟨trivial,?_⟩;unfold aF;clear hc4 hgl P7a P7b P7l P8a P8b P8l P9a P9b P9l HM3 HG3 P73 P83 P93;have t4:=eE l m s3;have l4:=eQ l m s3;obtain⟨s4,hs4⟩:∃s4,s4=bM l m s3:=⟨_,rfl⟩;rw[<-hs4]at t4 l4 HM4 HLS;clear hs4;cases o with
 |true=>
  simp only[iff,jJ]at HLS;have hc4:=HM4.o.f4;have hgl:=HM4.o.glt;have P7a:=P74.o.box.c0;have P7b:=P74.o.box.c1;have P7l:=P74.o.box.lt;have P8a:=P84.o.box.c0;have P8b:=P84.o.box.c1;have P8l:=P84.o.box.lt;have P9a:=P94.o.box.c0;have P9b:=P94.o.box.c1;have P9l:=P94.o.box.lt;go_wp2;refine aR [0,1,2,3,4,5,6,7] [] [8] (by kernel_rfl) (by kernel_rfl) ?_;simp only[pk]
  repeat(go_big_quiet_step (fail))
  refine wpQuiet_nil ?_;unfold aF;unfold aF
  go_wp2_with((with_reducible go_at_call 53);refine(pV (HM4.o.up (aP _)) n m (by omega) (by omega) (by omega)).mono ?_;rintro en w5 ⟨rfl,S5,hm,hg⟩;have HM5:=qa hm;have HG5:=qa ((HG4.o.up (aP _)).trans hg);have P75:=qa ((P74.o.up (aP _)).gw hg);have P85:=qa ((P84.o.up (aP _)).gw hg);have P95:=qa ((P94.o.up (aP _)).gw hg);clear hm hg)
  refine⟨trivial,?_⟩;unfold aF;clear hc4 hgl P7a P7b P7l P8a P8b P8l P9a P9b P9l HM4 HG4 P74 P84 P94;have t5:=eE n m s4;have l5:=eQ n m s4;obtain⟨s5,hs5⟩:∃s5,s5=bM n m s4:=⟨_,rfl⟩;rw[<-hs5]at t5 l5 HM5 HLS;clear hs5;cases a with
  |true=>
   simp only[jJ]at HLS;have hc4:=HM5.o.f4;have hgl:=HM5.o.glt;have P7a:=P75.o.box.c0;have P7b:=P75.o.box.c1;have P7l:=P75.o.box.lt;have P8a:=P85.o.box.c0;have P8b:=P85.o.box.c1;have P8l:=P85.o.box.lt;have P9a:=P95.o.box.c0;have P9b:=P95.o.box.c1;have P9l:=P95.o.box.lt;go_wp2;refine aR [0,1,2,3,4,5,6,7] [] [8] (by kernel_rfl) (by kernel_rfl) ?_;simp only[pk]
   repeat(go_big_quiet_step (fail))
   refine wpQuiet_nil ?_;unfold aF;unfold aF
   go_wp2_with((with_reducible go_at_call 53);refine(pV (HM5.o.up (aP _)) l f (by omega) (by omega) (by omega)).mono ?_;rintro en w6 ⟨rfl,S6,hm,hg⟩;have HM6:=qa hm;have HG6:=qa ((HG5.o.up (aP _)).trans hg);have P76:=qa ((P75.o.up (aP _)).gw hg);have P86:=qa ((P85.o.up (aP _)).gw hg);have P96:=qa ((P95.o.up (aP _)).gw hg);clear hm hg)
   refine⟨trivial,?_⟩;unfold aF;clear hc4 hgl P7a P7b P7l P8a P8b P8l P9a P9b P9l HM5 HG5 P75 P85 P95;have P8a:=P86.o.box.c0;have P8b:=P86.o.box.c1;have P8l:=P86.o.box.lt;have P8f:=P86.o.box.free 0;have P8g:=P86.o.box.free 1;have P9a:=P96.o.box.c0;have P9b:=P96.o.box.c1;have P9l:=P96.o.box.lt;have HST:=qa (P86.o.box.set n m);go_wp2;refine cI rfl rfl rfl HST.o.1.load ?_;exact⟨rfl,S6,by rw[HLS.o];exact HM6.o.keep HST.o.2 P86.o.no (by omega),HG6.o.new HST.o.2 (by omega)⟩
  |false=>
   simp only[qT,jt]at HLS;have P8a:=P85.o.box.c0;have P8b:=P85.o.box.c1;have P8l:=P85.o.box.lt;have P8f:=P85.o.box.free 0;have P8g:=P85.o.box.free 1;have P9a:=P95.o.box.c0;have P9b:=P95.o.box.c1;have P9l:=P95.o.box.lt;have HST:=qa (P85.o.box.set n m);go_wp2;refine cI rfl rfl rfl HST.o.1.load ?_;exact⟨rfl,S5,by rw[HLS.o];exact HM5.o.keep HST.o.2 P85.o.no (by omega),HG5.o.new HST.o.2 (by omega)⟩
 |false=>
  simp only[iff,qT,jt]at HLS;cases a with
  |true=>
   simp only[jJ]at HLS;have hc4:=HM4.o.f4;have hgl:=HM4.o.glt;have P7a:=P74.o.box.c0;have P7b:=P74.o.box.c1;have P7l:=P74.o.box.lt;have P8a:=P84.o.box.c0;have P8b:=P84.o.box.c1;have P8l:=P84.o.box.lt;have P9a:=P94.o.box.c0;have P9b:=P94.o.box.c1;have P9l:=P94.o.box.lt;go_wp2;refine aR [0,1,2,3,4,5,6,7] [] [8] (by kernel_rfl) (by kernel_rfl) ?_;simp only[pk]
   repeat(go_big_quiet_step (fail))
   refine wpQuiet_nil ?_;unfold aF;unfold aF
   go_wp2_with((with_reducible go_at_call 53);refine(pV (HM4.o.up (aP _)) l f (by omega) (by omega) (by omega)).mono ?_;rintro en w5 ⟨rfl,S5,hm,hg⟩;have HM5:=qa hm;have HG5:=qa ((HG4.o.up (aP _)).trans hg);have P75:=qa ((P74.o.up (aP _)).gw hg);have P85:=qa ((P84.o.up (aP _)).gw hg);have P95:=qa ((P94.o.up (aP _)).gw hg);clear hm hg)
   refine⟨trivial,?_⟩;unfold aF;clear hc4 hgl P7a P7b P7l P8a P8b P8l P9a P9b P9l HM4 HG4 P74 P84 P94;have P8a:=P85.o.box.c0;have P8b:=P85.o.box.c1;have P8l:=P85.o.box.lt;have P8f:=P85.o.box.free 0;have P8g:=P85.o.box.free 1;have P9a:=P95.o.box.c0;have P9b:=P95.o.box.c1;have P9l:=P95.o.box.lt;have HST:=qa (P85.o.box.set n m);go_wp2;refine cI rfl rfl rfl HST.o.1.load ?_;exact⟨rfl,S5,by rw[HLS.o];exact HM5.o.keep HST.o.2 P85.o.no (by omega),HG5.o.new HST.o.2 (by omega)⟩
  |false=>
   simp only[qT,jt]at HLS;have P8a:=P84.o.box.c0;have P8b:=P84.o.box.c1;have P8l:=P84.o.box.lt;have P8f:=P84.o.box.free 0;have P8g:=P84.o.box.free 1;have P9a:=P94.o.box.c0;have P9b:=P94.o.box.c1;have P9l:=P94.o.box.lt;have HST:=qa (P84.o.box.set n m);go_wp2;refine cI rfl rfl rfl HST.o.1.load ?_;exact⟨rfl,S4,by rw[HLS.o];exact HM4.o.keep HST.o.2 P84.o.no (by omega),HG4.o.new HST.o.2 (by omega)⟩
theorem SlK.midB{P:Program}{k:Nat}{w:World}{v:Value}{l:List (List Value)}(h:SlK k w v l)(t E:TypeId)(ht:P.underlying t=some (.slice E))(hE:(P.info? E).map (·.size)=some k)(n m:Nat)(hn:n<=m)(hm:m<=l.length):
  ∃u,(∀W:World,(Instr.sliceAt t v (some (.int .i64 (n:Int))) (some (.int .i64 (m:Int))) none).run P W=.ok u W)/\SlK k w u ((l.drop n).take (m-n))/\u.ownBlock=v.ownBlock/\u.oneCell'=true:=by
 obtain⟨oa,cap,b,off,rfl,hd,hc⟩:=h;obtain⟨h1,h2⟩:=rX t E ht hE;have hcap:=hd.hcap;have hl:((l.drop n).take (m-n)).length=m-n:=by rw[qX,j4];omega
 refine⟨sliced oa n m cap k,fun W=>?_,?_,?_,rfl⟩
 ·rw[run_sliceAt_slice (P:=P) (t:=t) (h:=h1),run_slice_lh (t:=t) (ht:=h1) (h0:=by omega) (h1:=by omega) (h2:=by omega),h2]
  simp[Result.andThen]
 ·refine⟨if cap=n then oa else oa.map (·.add (n*k)),cap-n,b,off+n*k,by rw[hl];simp[sliced],⟨fun h0=>?_,by omega,by have:=hd.hmax;omega,by have:=hd.hsml;omega,fun h0=>hd.hblk (by omega)⟩,fun i hi c hcl=>?_⟩
  ·rw[hl]at h0
   rw[qv (by omega),hd.hat (by omega)];simp[kJ]
  rw[hl]at hi;have:=hc (n+i) (by omega) c hcl;rw[jN,<-jL]at this;rw[this];simp[List.getD,hi]
 cases oa with
 |none=>by_cases hcn:cap=n<;>simp[sliced,Value.ownBlock,hcn]
 |some a=>
  have:(a.add (n*k)).block=a.block:=by unfold Addr.add;split<;>rfl
  by_cases hcn:cap=n<;>simp[sliced,Value.ownBlock,hcn,this]
structure eY(w:World)(b:Nat)(v:Value)(l:List Nd):Prop where
 at_:bE w v l
 blk:v.ownBlock=some b
 pos:0<l.length
 one:v.oneCell'=true
theorem eY.lt{w:World}{b:Nat}{v:Value}{l:List Nd}(h:eY w b v l):b<w.heap.size:=by
 obtain⟨oa,cap,b',off,rfl,hd,-⟩:=h.at_.open;obtain rfl:=hd.hat h.pos;have:=h.blk;simp only[Value.ownBlock,jC]at this;subst this;exact hd.hblk h.pos
theorem eY.gw{S S1:Nat->Prop}{w w':World}{b:Nat}{v:Value}{l:List Nd}(h:eY w b v l)(hg:Gw S w S1 w')(hn:¬S b):eY w' b v l:=by
 refine⟨?_,h.blk,h.pos,h.one⟩;obtain⟨oa,cap,b',off,rfl,hd,hc⟩:=h.at_;have qcL:0<(l.map ndC).length:=by rw[qB];exact h.pos
 obtain rfl:=hd.hat qcL;have hb:=h.blk;simp only[Value.ownBlock,jC]at hb;subst hb;exact⟨_,cap,b',off,rfl,⟨hd.hat,hd.hcap,hd.hmax,hd.hsml,fun h0=>qe (hd.hblk h0) hg.size⟩,fun i hi c hcl=>(hg.cell (hd.hblk qcL) hn).trans (hc i hi c hcl)⟩
theorem eY.up{w w':World}{b:Nat}{v:Value}{l:List Nd}(h:eY w b v l)(hb:Below w.heap.size w w'):eY w' b v l:=⟨h.at_.up hb,h.blk,h.pos,h.one⟩
theorem eY.form{w:World}{b:Nat}{v:Value}{l:List Nd}(h:eY w b v l):∃o n c,v=.slice o n c:=by
 obtain⟨oa,cap,b',off,hv,-,-⟩:=h.at_.open;exact⟨_,_,_,hv⟩
theorem eY.mid{w:World}{b:Nat}{v:Value}{l:List Nd}(h:eY w b v l)(n m:Nat)(hn:n<m)(hm:m<=l.length):
  ∃u,(∀W:World,(Instr.sliceAt 42 v (some (.int .i64 (n:Int))) (some (.int .i64 (m:Int))) none).run prog W=.ok u W)/\eY w b u ((l.drop n).take (m-n)):=by
 obtain⟨u,h1,h2,h3,h4⟩:=SlK.midB (P:=prog) h.at_ 42 98 underlying42 (by kernel_rfl) n m (by omega) (by simpa using hm);exact⟨u,h1,by unfold bE;rw[List.map_take,List.map_drop];exact h2,h3.trans h.blk,by rw[qX,j4];omega,h4⟩
def cQ:Fo->List (List Nd)
 |.nil=>[]
 |.cons x k r=>(x::bO k)::cQ r
theorem dB:∀f,(cQ f).length=cnt f
 |.nil=>rfl
 |.cons x k r=>by simp[cQ,cnt,dB r]
structure yI(w:World)(B b:Nat)(u:Value)(vs:List Value)(tl:List (List Nd)):Prop where
 own:Own w B 42 u vs
 len:vs.length=tl.length
 rows:∀i,i<tl.length->eY w b (vs.getD i undef) (tl.getD i [])
theorem q4l{w:World}{v:Value}{b:Nat}{x:Nd}{k:Fo}(h:eY w b v (x::bO k))(hl:(bO k).length<400)(hn:x.n=cnt k)(hk:wf k):
  Calls prog 54 #[v] w fun e w'=>∃u vs,e=.returned u/\yI w' w.heap.size b u vs (cQ k)/\Below w.heap.size w w':=by
 have HB:=qa h;have qe2:=qa (fun w' hb j=>qbP (bE.up h.at_ hb (w':=w')) (by simp;omega) j);obtain⟨oa,cap,b',off,rfl,hd,hc⟩:=h.at_.open
 have hix:∀W:World,(Instr.indexAt 42 (.slice oa (x::bO k).length cap) (.int .i64 0)).run prog W=.ok (.pointer (some ⟨b',off,none⟩)) W:=fun(W:World)=>by
  have:=fG hd W .i64 0 (by omega) (by simp);simpa using this
 have hcell:=hc 0 (by simp) 1 (by decide);change w.cell? ⟨b',off+0*8+1,none⟩=some (.int .i64 x.n)at hcell;have qdz:w.cell? ⟨b',off+1,none⟩=some (.int .i64 (cnt k:Nat)):=by rw[Nat.zero_mul,jF,hn]at hcell;exact hcell
 have hb:=hd.hblk (by simp);have hck:=r0 k;have HK:=qa hk;obtain⟨l,hle⟩:∃l,l=x::bO k:=⟨_,rfl⟩;have hl1:l.length<=1+(bO k).length:=by rw[hle];simp;omega
 have hl2:1+(bO k).length<=l.length:=by rw[hle];simp;omega
 have HLD:Hid (l.drop 1=bO k):=qa (by rw[hle];rfl);rw[<-hle]at HB qe2 hix⊢;clear h hd hc hcell hk hn hle;go_enter func54,ntmps54;go_wp2
 go_loopg [3,4,10] (cnt k) (fun gk ov av jv wr=>∃(j at_:Nat) (r:Fo) (vs:List Value) (dn:List (List Nd)),jv=.int .i64 j/\av=.int .i64 at_/\at_+(bO r).length=l.length/\j+cnt r=cnt k/\l.drop at_=bO r/\wf r/\dn++cQ r=cQ k/\dn.length=j/\yI wr w.heap.size b ov vs dn/\Below w.heap.size w wr/\gk=cnt k-j)
 case atStart=>exact⟨0,1,k,[],[],rfl,by push_cast;rfl,by omega,by omega,HLD.o,HK.o,rfl,rfl,⟨Own.nil _ _ _,rfl,fun i hi=>absurd hi (qC i)⟩,qn _ _,rfl⟩
 case round=>
  obtain⟨j,at_,r,vs,dn,rfl,rfl,qdC,hj,hdr,hwr,hls,qfX,hown,qcw,rfl⟩:=hrel;have HO:=qa hown;have HBL:=qa qcw;have HLS:=qa hls;clear hown qcw hls;have hcw:=(HBL.o.cell (p:=⟨b',off+1,none⟩) hb).trans qdz;have hbw:b'<wr.heap.size:=by have:=HBL.o.size;omega
  cases r with
  |nil=>
   have hje:j=cnt k:=by simpa[cnt]using hj
   have HE:Hid (dn=cQ k):=qa (by rw[<-HLS.o];simp[cQ]);go_wp2;go_ret;refine⟨u3,vs,rfl,?_,HBL.o⟩;rw[<-HE.o];exact HO.o
  |cons y ky r'=>
   simp only[cnt]at hj;simp only[bO]at hdr;simp only[bO,qA,qj]at qdC;obtain⟨hy1,hy2,hy3⟩:=hwr;have hend:=Y0 l.length (bO r') y ky hy1 hy2 (by omega) at_;rw[<-hdr]at hend;obtain⟨-,-,qdd⟩:=gS (d:=zN) hdr;have HDR:Hid (l.drop (at_+1+(bO ky).length)=bO r'):=qa (uE qdd);have hee:((at_:Int)+(1+(bO ky).length))=((at_+1+(bO ky).length:Nat):Int):=by push_cast;omega
   rw[hee]at hend;obtain⟨u,hsl,hnu⟩:=HB.o.mid at_ (at_+1+(bO ky).length) (by omega) (by omega)
   have htk:(l.drop at_).take (at_+1+(bO ky).length-at_)=y::bO ky:=by
    rw[hdr,show at_+1+(bO ky).length-at_=(bO ky).length+1 by omega,List.take_succ_cons,List.take_left]
   rw[htk]at hnu;obtain⟨ou,lu,cu,rfl⟩:=hnu.form;obtain⟨en,hen⟩:∃en,en=at_+1+(bO ky).length:=⟨_,rfl⟩;rw[<-hen]at hend hsl HDR;have HEN:=qa hend;have HW3:=qa hy3;have HNU:=qa hnu;have HVL:Hid (vs.length=j):=qa (HO.o.len.trans qfX);have hvb:vs.length+1<=4294967296:=by have:=HVL.o;omega
   have HE2:=qa hen;clear hdr qdd hend hee hy1 hy2 hy3 htk hnu hen;have HEC:=qa (qe2.o wr HBL.o at_)
   go_wp2_with(first|((with_reducible go_at_call 79);refine HEC.o.mono ?_;rintro en' w' ⟨rfl,x6,rfl⟩;rw[HEN.o];have HWX:Hid (Below wr.heap.size wr ((ext wr x6).alloc (.cells #[.slice ou lu cu] 42))):=qa ((aE wr x6).trans ((aD (ext wr x6) (.cells #[.slice ou lu cu] 42)).mono (iP wr x6))))|(at_builtin;refine bF rfl (.tmp 15) (.tmp 20) 22 rfl w.heap.size 42 (.slice none 0 0) 24 underlying22 (by kernel_rfl) rfl (by decide) u3 vs rfl (HO.o.own.up HWX.o) (.slice (some ⟨(ext wr x6).heap.size,0,none⟩) 1 1) [.slice ou lu cu] rfl (by simpa using eK (ext wr x6) #[.slice ou lu cu] 42 (by simp)) (by intro z hz;rw[jg]at hz;rw[hz];exact HNU.o.one) (by simpa using hvb) (qc HBL.o.size HWX.o.size) ?_;intro v' w5 hown1 hg1 hk1;have HO1:=qa hown1;have HG1:=qa hg1;clear hown1 hg1 hk1))
   have HB5:=qa (eO (HBL.o.trans (HWX.o.mono HBL.o.size)) (qc HBL.o.size HWX.o.size) (HO.o.own.up HWX.o) HG1.o)
   go_roundg (cnt k-(j+1))
   case measure=>omega
   case rel=>
    have hlv:=HVL.o;have hen:=HE2.o;refine⟨j+1,en,r',vs++[.slice ou lu cu],dn++[y::bO ky],by go_num,rfl,by omega,by omega,HDR.o,HW3.o,?_,by simp[qfX],⟨HO1.o,by rw[qj,qj,hlv,qfX];rfl,fun i hi=>?_⟩,HB5.o,rfl⟩
    ·rw[<-HLS.o];simp[cQ]
    rw[qj,qE]at hi;have hgx:Gw (fun k=>w.heap.size<=k) w (fun k=>w.heap.size<=k) w5:=⟨⟨HB5.o.os,HB5.o.tape,HB5.o.output,HB5.o.size,fun k hk _=>HB5.o.block k hk⟩,fun k h=>.inl h⟩;have hbb:=HB.o.lt;by_cases hil:i<dn.length
    ·rw[bC (by omega),bC hil]
     exact(HO.o.rows i hil).gw (S:=fun k=>w.heap.size<=k) (S1:=fun k=>w.heap.size<=k) ⟨⟨HWX.o.os.trans rfl |>.trans rfl |> fun e=>by have h1:=HB5.o.os;have h2:=HBL.o.os;rw[h1,h2],by have h1:=HB5.o.tape;have h2:=HBL.o.tape;rw[h1,h2],by have h1:=HB5.o.output;have h2:=HBL.o.output;rw[h1,h2],qc HWX.o.size HG1.o.size,fun k hk hn=>by rw[HB5.o.block k (by omega),HBL.o.block k (by omega)]⟩,fun k h=>.inl h⟩ (by omega)
    have hie:i=dn.length:=by omega
    subst hie;rw[cJ,qfX,<-hlv,cJ];exact HNU.o.gw hgx (by omega)
def pcC(p:Pc):List Value:=[.int .i64 (p.f:Nat),.int .i64 (p.l:Nat)]
theorem R6(l:List Pc):∀x∈l.map pcC,x.length=2:=by
 intro x hx;obtain⟨e,-,rfl⟩:=List.mem_map.1 hx
 rfl
structure q4m(w:World)(v:Value)(b off cap:Nat)(ps:List Pc):Prop where
 v:v=.slice (some ⟨b,off,none⟩) ps.length cap
 hd:Hd w (some ⟨b,off,none⟩) ps.length cap b off
 pos:0<ps.length
 c0:∀i,i<ps.length->w.cell? ⟨b,off+i*2,none⟩=some (.int .i64 ((ps.getD i zP).f:Nat))
 c1:∀i,i<ps.length->w.cell? ⟨b,off+i*2+1,none⟩=some (.int .i64 ((ps.getD i zP).l:Nat))
theorem q1Z{w:World}{B E:Nat}{v:Value}{ps:List Pc}(h:eL 2 w B E v (ps.map pcC))(hp:0<ps.length):∃b off cap,q4m w v b off cap ps/\v.ownBlock=some b:=by
 obtain⟨oa,cap,b,off,hv,hd,hc⟩:=h.sl;rw[qB]at hv hd hc;obtain rfl:=hd.hat hp;refine⟨b,off,cap,⟨hv,hd,hp,fun i hi=>?_,fun i hi=>?_⟩,by rw[hv];rfl⟩
 ·have:=hc i hi 0 (by decide)
  rw[jF]at this;rw[this];simp[List.getD,hi,pcC]
 rw[hc i hi 1 (by decide)];simp[List.getD,hi,pcC]
theorem q4m.gw{S S1:Nat->Prop}{w w':World}{v:Value}{b off cap:Nat}{ps:List Pc}(h:q4m w v b off cap ps)(hg:Gw S w S1 w')(hn:¬S b):q4m w' v b off cap ps:=by
 have hb:=h.hd.hblk h.pos;exact⟨h.v,⟨h.hd.hat,h.hd.hcap,h.hd.hmax,h.hd.hsml,fun h0=>qe (h.hd.hblk h0) hg.size⟩,h.pos,fun i hi=>(hg.cell hb hn).trans (h.c0 i hi),fun i hi=>(hg.cell hb hn).trans (h.c1 i hi)⟩
theorem q4m.up{w w':World}{v:Value}{b off cap:Nat}{ps:List Pc}(h:q4m w v b off cap ps)(hb:Below w.heap.size w w'):q4m w' v b off cap ps:=h.gw (d7 (fun _=>False) hb) id
theorem A3{w:World}{v:Value}{b off cap:Nat}{ps:List Pc}(h:q4m w v b off cap ps):
  ∀(W:World) (i:Nat),i<ps.length->(Instr.indexAt 119 (.slice (some ⟨b,off,none⟩) ps.length cap) (.int .i64 i)).run prog W=.ok (.pointer (some ⟨b,off+i*2,none⟩)) W:=fun W i hi=>by
 have:=mJ (P:=prog) 2 119 80 underlying119 (by kernel_rfl) h.hd W .i64 i (by omega) (by omega);simpa using this
theorem qad{w:World}{S:Nat->Prop}{g q:Nat}{s:St}{F:Int}{v:Value}{b off cap:Nat}{ps:List Pc}(h:MkT w S g q s F)(hl:s.e.length<=9000)(ht:tot s.e+ps.length<=800000)(hps:q4m w v b off cap ps)(hbn:¬S b)(hrg:∀i,i<ps.length->(ps.getD i zP).f<s.e.length/\(ps.getD i zP).l<s.e.length)(n m:Nat)(hn:n=(sV ps).f)(hm:m=(sV ps).l):
  Calls prog 59 #[.pointer (some ⟨g,0,none⟩),v] w fun e w'=>e=.returned (.agg #[.int .i64 n,.int .i64 m])/\∃S',MkT w' S' g q (fB ps ps.length s) F/\Gw S w S' w':=by
 have hgq:=h.gq;have hno:=h.no (qb _);have qkB:=hps.hd.hblk hps.pos;have qcL:=hps.pos;obtain rfl:=hps.v;have hix:=A3 hps;have hmx:=hps.hd.len;have HM:=qa h;have HPS:=qa hps;have HRG:=qa hrg;have HN:=qa hn;have HMM:=qa hm;have HL:=qa hl;have HTT:=qa ht;have HCL:=qa (gR ps s);have HCT:=qa (zQ ps s);clear h hps hrg hn hm hl ht;go_enter func59,ntmps59;go_wp2
 go_loopg [9] (ps.length) (fun gk iv wr=>∃(j:Nat) (Sr:Nat->Prop),iv=.int .i64 j/\j<=ps.length/\MkT wr Sr g q (fB ps j s) F/\Gw S w Sr wr/\q4m wr (.slice (some ⟨b,off,none⟩) ps.length cap) b off cap ps/\¬Sr b/\LB wr Sr w.heap.size 0 0/\gk=ps.length-j)
 case atStart=>exact⟨0,S,rfl,qd _,HM.o.up (aD _ _),d7 S (aD _ _),HPS.o.up (aD _ _),hbn,⟨fO w 0 0,hno⟩,rfl⟩
 case round=>
  obtain⟨j,Sr,rfl,hj,hm,hgw,qf0,hnb,hlb,rfl⟩:=hrel;have HM1:=qa hm;have HG1:=qa hgw;have HP1:=qa qf0;have HB1:=qa hlb;have HNB:=qa hnb;clear hm hgw qf0 hlb hnb HM HPS;by_cases hlt:j<ps.length
  ·obtain⟨pj,hpj⟩:∃p,p=ps.getD j zP:=⟨_,rfl⟩
   have HCE:Hid (∀c',c'<2->wr.cell? ⟨b,off+j*2+c',none⟩=some ((#[.int .i64 (pj.f:Nat),.int .i64 (pj.l:Nat)]:Array Value).getD c' undef)):=qa (fun c' h=>by
    rw[hpj];rcases(show c'=0\/c'=1 by omega)with rfl|rfl
    ·exact HP1.o.c0 j hlt
    exact HP1.o.c1 j hlt)
   have hrg:=HRG.o j hlt;rw[<-hpj]at hrg;have hcl:=HCL.o j;have hct:=HCT.o j;have hl:=HL.o;have htt:=HTT.o;have HPJ:=qa hpj;clear hpj;cases j with
   |zero=>
    have qew:=fun W=>hix W 0 qcL;clear hix
    go_wp2_with(refine aH rfl 80 _ rfl b (off+0*2) 2 rfl _ _ HCE.o rfl underlying80 rfl (by kernel_rfl) ?_)
    go_roundg (ps.length-1)
    case measure=>omega
    case rel=>
     exact⟨1,Sr,rfl,by omega,HM1.o.up (aD _ _),HG1.o.up (aD _ _),HP1.o.up (aD _ _),HNB.o,HB1.o.up (aD _ _),rfl⟩
   |succ j=>
    have qdX:∀W,(Instr.indexAt 119 (.slice (some ⟨b,off,none⟩) ps.length cap) (.int .i64 ((j:Int)+1))).run prog W=.ok (.pointer (some ⟨b,off+(j+1)*2,none⟩)) W:=fun W=>by have:=hix W (j+1) hlt;simpa using this
    have qcB:=fun W=>hix W j (by omega);obtain⟨pi,hpi⟩:∃p,p=ps.getD j zP:=⟨_,rfl⟩;have qjP:=HRG.o j (by omega);rw[<-hpi]at qjP;have hci:=HP1.o.c1 j (by omega);rw[<-hpi]at hci;have hbr:=HP1.o.hd.hblk HP1.o.pos;have HPI:=qa hpi;have HCS:Hid (fB ps (j+2) s=bM pi.l pj.f (fB ps (j+1) s)):=qa (by rw[HPI.o,HPJ.o];simp[fB,iff]);have hsr:=HG1.o.size;clear hix hpi
    go_wp2_with(refine aH rfl 80 _ rfl b (off+(j+1)*2) 2 rfl _ _ HCE.o rfl underlying80 rfl (by kernel_rfl) ?_)
    have HL6:Hid (LB (wr.alloc (.cells #[.int .i64 (pj.f:Nat),.int .i64 (pj.l:Nat)] 80)) Sr wr.heap.size pj.f pj.l):=qa ⟨fO wr _ _,HM1.o.no (qb _)⟩;have HM2:=qa (HM1.o.up (aD wr (.cells #[.int .i64 (pj.f:Nat),.int .i64 (pj.l:Nat)] 80)));have HG2:=qa (HG1.o.up (aD wr (.cells #[.int .i64 (pj.f:Nat),.int .i64 (pj.l:Nat)] 80)));have HP2:=qa (HP1.o.up (aD wr (.cells #[.int .i64 (pj.f:Nat),.int .i64 (pj.l:Nat)] 80)));have HB2:=qa (HB1.o.up (aD wr (.cells #[.int .i64 (pj.f:Nat),.int .i64 (pj.l:Nat)] 80)));have qkq:=HP2.o.c1 j (by omega);rw[<-HPI.o]at qkq;have hb2:=HP2.o.hd.hblk qcL;clear hci hbr HM1 HG1 HP1 HB1 HCE;generalize wr.heap.size=p6 at*;generalize wr.alloc (.cells #[.int .i64 (pj.f:Nat),.int .i64 (pj.l:Nat)] 80)=w2 at*;have hc4:=HM2.o.f4;have hgl:=HM2.o.glt;have h60:=HL6.o.box.c0;have h6l:=HL6.o.box.lt;refine aR [0,1,2,3,4,5,6,7,8,9,10,11] [] [12] (by kernel_rfl) (by kernel_rfl) ?_;simp only[pk]
    repeat(go_big_quiet_step (fail))
    refine wpQuiet_nil ?_;unfold aF;unfold aF
    go_wp2_with((with_reducible go_at_call 53);refine(pV (HM2.o.up (aP _)) pi.l pj.f (by omega) (by omega) (by omega)).mono ?_;rintro en w3 ⟨rfl,S3,hm,hg⟩;have HM3:=qa hm;have HG3:=qa ((HG2.o.up (aP _)).trans hg);have HP3:=qa ((HP2.o.up (aP _)).gw hg HNB.o);(have ql9:=qa (hg.out (qe hb2 (aP _).size) HNB.o));have HB3:=qa ((HB2.o.up (aP _)).gw hg);clear hm hg)
    refine⟨trivial,?_⟩;unfold aF;go_wp2
    go_roundg (ps.length-(j+2))
    case measure=>omega
    case rel=>
     exact⟨j+2,S3,by go_num,by omega,by rw[HCS.o];exact HM3.o,HG3.o,HP3.o,ql9.o,HB3.o,rfl⟩
  have hje:j=ps.length:=by omega
  subst hje;have qku:=HP1.o.c0 0 qcL;have qkt:=HP1.o.c1 (ps.length-1) (by omega);have hnv:((ps.getD 0 zP).f:Int)=n:=by rw[HN.o];rfl
  have hmv:((ps.getD (ps.length-1) zP).l:Int)=m:=by rw[HMM.o];rfl
  rw[hnv,Nat.zero_mul,jF]at qku;rw[hmv]at qkt;have hbr:=HP1.o.hd.hblk qcL;have qew:∀W,(Instr.indexAt 119 (.slice (some ⟨b,off,none⟩) ps.length cap) (.int .i64 0)).run prog W=.ok (.pointer (some ⟨b,off,none⟩)) W:=fun W=>by have:=hix W 0 qcL;simpa using this
  have qlZ:∀W,(Instr.indexAt 119 (.slice (some ⟨b,off,none⟩) ps.length cap) (.int .i64 ((ps.length:Int)-1))).run prog W=.ok (.pointer (some ⟨b,off+(ps.length-1)*2,none⟩)) W:=fun W=>by
   have:=hix W (ps.length-1) (by omega);rwa [show((ps.length-1:Nat):Int)=(ps.length:Int)-1 by omega]at this
  have P4a:=HB1.o.box.c0;have P4b:=HB1.o.box.c1;have P4l:=HB1.o.box.lt;have P4f:=HB1.o.box.free 0;have P4g:=HB1.o.box.free 1;have HST:=qa ((HB1.o.box.up (aP _)).set n m);clear hix hnv hmv;go_wp2;refine aR [0,1,2,3,4,5,6,7,8,9,10,11] [] [12] (by kernel_rfl) (by kernel_rfl) ?_;simp only[pk]
  repeat(go_big_quiet_step (fail))
  refine wpQuiet_nil ?_;unfold aF;unfold aF;go_wp2;refine⟨trivial,?_⟩;unfold aF;go_wp2;refine cI rfl rfl rfl HST.o.1.load ?_;exact⟨rfl,Sr,(HM1.o.up (aP _)).keep HST.o.2 HB1.o.no (by omega),(HG1.o.up (aP _)).new HST.o.2 (qb _)⟩
theorem qbn(x i:Nat):wdR x i<18446744073709551616:=jW _ (by decide)
theorem q3u(x i j:Nat):(wdR x i).testBit j=(decide (j<64)&&x.testBit (64*i+j)):=by
 unfold wdR;rw[jS,Nat.testBit_div_two_pow,Nat.add_comm]
theorem qaz(x y i:Nat):wdR (x|||y) i=wdR x i|||wdR y i:=by
 refine jo fun j=>?_;rw[Nat.testBit_or,q3u,q3u,q3u,Nat.testBit_or];cases decide (j<64)<;>simp
theorem q8C(c i:Nat):wdR (2^c) i=if c/64=i then 2^(c%64)else 0:=by
 refine jo fun j=>?_;rw[q3u,aA];split
 ·rename_i h
  rw[aA];by_cases hj:j<64
  ·rw[qz hj,j6]
   by_cases h2:c=64*i+j
   ·rw[qz h2,qz (by omega)]
   rw[qx h2,qx (by omega)]
  rw[qx hj,jO,qx (by omega)]
 rename_i h;rw[Nat.zero_testBit];by_cases hj:j<64
 ·rw[qz hj,j6,qx (by omega)]
 rw[qx hj,jO]
theorem qaA{x y:Nat}(hx:x<2^256)(hy:y<2^256)(h:∀i,i<4->wdR x i=wdR y i):x=y:=by
 refine jo fun k=>?_;by_cases hk:k<256
 ·have:=j0 (fun z=>z.testBit (k%64)) (h (k/64) (by omega))
  simp only[q3u,qz (jW k (show 64>0 by decide)),j6]at this;rwa [show 64*(k/64)+k%64=k by omega]at this
 have h1:2^256<=2^k:=qg (by decide) (by omega);rw[Nat.testBit_lt_two_pow (qe hx h1),Nat.testBit_lt_two_pow (qe hy h1)]
theorem q5j(i:Nat):wdR 0 i=0:=by simp[wdR]
theorem mH{x y:Nat}(hx:x<2^256)(hy:y<2^256):x|||y<2^256:=Nat.or_lt_two_pow hx hy
theorem q0i(x:Nat):X5 x<2^256:=by
 unfold X5;have:0<2^256:=Nat.two_pow_pos 256;omega
def q6N(a b k:Nat):Nat:=(List.range k).foldl (fun x c=>if a<=c/\c<=b then x|||2^c else x) 0
theorem q0j(a b k:Nat):q6N a b (k+1)=if a<=k/\k<=b then q6N a b k|||2^k else q6N a b k:=by
 unfold q6N;rw[jz,qZ];rfl
theorem V1(a b:Nat):∀k i,(q6N a b k).testBit i=(decide (i<k)&&decide (a<=i/\i<=b))
 |0,i=>by simp[q6N]
 |k+1,i=>by
  rw[q0j];have ih:=V1 a b k i;by_cases h:a<=k/\k<=b
  ·rw[qw h,Nat.testBit_or,ih,aA]
   by_cases hik:i=k
   ·subst hik;simp[h]
   by_cases h1:i<k
   ·rw[qz h1,qz (show i<k+1 by omega),qx (show¬k=i by omega)];simp
   rw[qx h1,qx (show¬i<k+1 by omega),qx (show¬k=i by omega)];simp
  rw[qv h,ih];by_cases hik:i=k
  ·subst hik;rw[qx h];simp
  exact ZmE3
theorem q5k(a b i:Nat):(nS a b).testBit i=(decide (i<256)&&decide (a<=i/\i<=b)):=V1 a b 256 i
theorem M7(a b:Nat):nS a b<2^256:=by
 refine Nat.lt_pow_two_of_testBit _ fun i hi=>?_;rw[q5k,qx (by omega)];rfl
theorem q5l(c:UInt8):lX c=2^c.toNat:=by
 refine jo fun i=>?_;have:=c.toNat_lt;unfold lX;rw[q5k,aA];by_cases h:c.toNat=i
 ·subst h;simp;omega
 rw[qx (show¬(c.toNat<=i/\i<=c.toNat) by omega),qx h];simp
theorem y6(c:UInt8):lX c<2^256:=M7 _ _
def wsV(x:Nat):List Value:=[.int .u64 (wdR x 0:Nat),.int .u64 (wdR x 1:Nat),.int .u64 (wdR x 2:Nat),.int .u64 (wdR x 3:Nat)]
def fR(x:Nat):Value:=.agg (wsV x).toArray
theorem q1q(x:Nat){i:Nat}(hi:i<4):(wsV x)[i]? =some (.int .u64 (wdR x i:Nat)):=by
 obtain rfl|rfl|rfl|rfl:i=0\/i=1\/i=2\/i=3:=by omega
 all_goals rfl
theorem E3(x:Nat):(wsV x).length=4:=rfl
theorem q5m{x y i:Nat}(hi:i<4)(h:∀j,j<4->j≠i->wdR y j=wdR x j):(wsV x).set i (.int .u64 (wdR y i:Nat))=wsV y:=by
 refine List.ext_getElem? fun j=>?_;rw[jQ];by_cases hj:j<4
 ·rw[q1q y hj]
  split
  ·rename_i e;subst e;rw[qw (by rw[E3];exact hi)]
  rename_i e;rw[q1q x hj,h j hj (fun e2=>e e2.symm)]
 rw[qv (by omega),qQ (by rw[E3];omega),qQ (by rw[E3];omega)]
structure lB(w:World)(g x:Nat):Prop where
 own:Own w g 53 (.slice (some ⟨g,0,none⟩) 4 4) (wsV x)
section
variable {w w' : World} {g x : Nat}
theorem lB.up(h:lB w g x)(hb:Below w.heap.size w w'):lB w' g x:=⟨h.own.up hb⟩
theorem lB.keep{row:Option Nat}(h:lB w g x)(hg:w.grownBy w' row)(hne:row≠some g):lB w' g x:=⟨h.own.keep hg (.inr (fun e=>hne e.symm))⟩
theorem lB.lt(h:lB w g x):g<w.heap.size:=(h.own.lt g rfl).2
theorem lB.cell(h:lB w g x){c:Nat}(hc:c<4):w.cell? ⟨g,c,none⟩=some (.int .u64 (wdR x c:Nat)):=by
 rw[h.own.cell (by rw[E3];exact hc),qu,q1q x hc];rfl
theorem lB.free(h:lB w g x)(c:Nat):w.frozen? ⟨g,c,none⟩=false:=h.own.free c
theorem lB.set(h:lB w g x){y i:Nat}(hi:i<4)(hy:∀j,j<4->j≠i->wdR y j=wdR x j):lB (w.setCell ⟨g,i,none⟩ (.int .u64 (wdR y i:Nat))) g y/\w.grownBy (w.setCell ⟨g,i,none⟩ (.int .u64 (wdR y i:Nat))) (some g):=by
 obtain⟨h1,h2⟩:=h.own.store i (.int .u64 (wdR y i:Nat));rw[q5m hi hy]at h1;exact⟨⟨h1⟩,h2⟩
theorem lB.load(h:lB w g x):(loadVar 53 ⟨g,0,none⟩).run prog w=.ok (fR x) w:=U5 h.own _ underlying53 rfl (by kernel_rfl)
theorem sI(w:World)(x:Nat):lB (w.alloc (.cells (wsV x).toArray 53)) w.heap.size x:=by
 have h:=cN w w.heap.size (wsV x).toArray 53 (by simp[wsV]) (qb _);simp only[jD,E3]at h;exact⟨h⟩
end
def z4:Array Value:=(wsV 0).toArray
theorem vG(W:World):(zeroValue 53).run prog W=.ok (.agg z4) W:=by kernel_rfl
theorem kP(w:World)(A:Array Value)(hA:A=z4):lB (w.alloc (.cells A 53)) w.heap.size 0:=by
 subst hA;exact sI w 0
theorem b7{ops:Array Oper}{rest:List Oper}{o:Oper}{a:Act}{w:World}{Q:Exit->Act->World->Prop}(hgd:o.guard=none)(x y:Operand)(ho:o.op=.store 53 x y)
  (g:Nat) (hx:a.eval x=.pointer (some ⟨g,0,none⟩)) (s t:Nat) (hy:a.eval y=fR t) (hown:lB w g s)
  (h:∀w',lB w' g t->w.grownBy w' (some g)->wpList prog ops Q rest (a.put o.dst undef) w'):wpList prog ops Q (o::rest) a w:=by
 refine bK hgd 53 x y ho g 53 g 4 4 hx (wsV t).toArray hy (by kernel_rfl) (wsV s) hown.own (by simp[wsV]) (fun u hu=>?_) fun w' hw hg=>h w' ⟨?_⟩ hg
 ·simp only[wsV,jM,List.not_mem_nil,or_false]at hu
  rcases hu with rfl|rfl|rfl|rfl<;>rfl
 exact hw
theorem bJ{ops:Array Oper}{rest:List Oper}{o:Oper}{a:Act}{w:World}{Q:Exit->Act->World->Prop}(hgd:o.guard=none)(x:Operand)(ho:o.op=.load 53 x)
  (g:Nat) (hx:a.eval x=.pointer (some ⟨g,0,none⟩)) (s:Nat) (hown:lB w g s)
  (h:wpList prog ops Q rest (a.put o.dst (fR s)) w):wpList prog ops Q (o::rest) a w:=by
 obtain⟨A,hg,hs,hA⟩:=hown.own.whole;have hA2:A=(wsV s).toArray:=by rw[<-hA]
 refine mZ hgd 53 4 x ho g hx A hs hg _ underlying53 rfl (by kernel_rfl) ?_;rw[hA2];exact h
theorem q3v{x k:Nat}:∀j,j≠k/64->wdR (x|||2^k) j=wdR x j:=fun j hj=>by
 rw[qaz,q8C,qv (fun e=>hj e.symm),Nat.or_zero]
theorem q5n(x k:Nat):wdR (x|||2^k) (k/64)=wdR x (k/64)|||2^(k%64):=by
 rw[qaz,q8C,qw rfl]
def gN(x:Nat)(w:World)(e:Ending)(w':World):Prop:=e=.returned (fR x)/\∃y,w'=ext w y
theorem qaB(x k:Nat):bits .or .u64 ((wdR x (k/64):Nat):Int) (IntKind.u64.wrap ((2:Int)^(k%64)))=((wdR (x|||2^k) (k/64):Nat):Int):=by
 have h:2^(k%64)<2^64:=Nat.pow_lt_pow_right (by decide) (jW _ (by decide));have e:(2:Int)^(k%64)=((2^(k%64):Nat):Int):=by simp
 have hs:=q5n x k;have hw:=qbn x (k/64);rw[e,hs];clear e hs;generalize 2^(k%64)=m at*;rw[IntKind.wrap_u64,Int.emod_eq_of_lt (by omega) (by omega),bits_or_u64_nat _ _ hw (by omega)]
theorem q7x(n:Nat)(h:n<256):[Value.int .u8 (n:Int)]=dG [UInt8.ofNat n]:=by
 simp[dG];omega
def ofS(l:eZ):Nat:=l.foldl (fun x c=>x|||2^c.toNat) 0
def sY(x k:Nat):eZ:=((List.range k).filter x.testBit).map UInt8.ofNat
theorem q7y(l:eZ)(c:UInt8):ofS (l++[c])=ofS l|||2^c.toNat:=by simp[ofS]
theorem q9k(l:eZ):∀x:Nat,l.foldl (fun x c=>x|||2^c.toNat) x=x|||ofS l:=by
 induction l with
 |nil=>intro x;simp[ofS]
 |cons c l ih=>
  intro x;unfold ofS;rw[qL,qL,ih,ih (0|||2^c.toNat),Nat.zero_or,Nat.or_assoc]
theorem q5o(a b:eZ):ofS (a++b)=ofS a|||ofS b:=by
 show List.foldl _ _ _=_;rw[qZ,q9k];rfl
theorem q9l(c:UInt8):ofS [c]=lX c:=by
 rw[q5l];simp[ofS]
theorem q0k(x k:Nat):sY x (k+1)=sY x k++if x.testBit k then [UInt8.ofNat k]else []:=by
 unfold sY;rw[jz,List.filter_append,qH]
 congr 1
 by_cases h:x.testBit k=true
 ·simp[h]
 simp[h]
theorem vH(x k:Nat):(sY x k).length<=k:=by
 unfold sY;rw[qB];exact qc (a6 _ _) (by simp)
theorem q7z(x k:Nat)(hk:k<=256):ofS (sY x k)=x%2^k:=by
 induction k with
 |zero=>simp[sY,ofS,Nat.mod_one]
 |succ k ih=>
  have hv:(UInt8.ofNat k).toNat=k:=by simp;omega
  rw[q0k,q5o,ih (by omega)];refine jo fun i=>?_;rw[Nat.testBit_or,jS,jS];by_cases h:x.testBit k=true
  ·rw[qw h]
   have:ofS [UInt8.ofNat k]=2^k:=by simp only[ofS,qL,List.foldl_nil,Nat.zero_or,hv]
   rw[this,aA];by_cases hik:k=i
   ·subst hik;simp[h]
   exact ZmE4
  rw[qv h];have:ofS []=0:=rfl;rw[this,Nat.zero_testBit,Bool.or_false];by_cases hik:k=i
  ·subst hik;simp[h]
  exact ZmE3
theorem q5p{x:Nat}(hx:x<2^256):ofS (sY x 256)=x:=by rw[q7z x 256 (qb _),Nat.mod_eq_of_lt hx]
theorem q7A(c:UInt8):sY (lX c) 256=[c]:=by
 have h:∀c:Fin 256,sY (lX (UInt8.ofFin c)) 256=[UInt8.ofFin c]:=by decide+kernel
 exact h c.toFin
theorem qcc(x k:Nat):((List.range k).foldl (fun y c=>if x.testBit c then y else y|||2^c) 0)=(2^k-1-x%2^k):=by
 induction k with
 |zero=>simp[Nat.mod_one]
 |succ k ih=>
  rw[jz,qZ,ih];simp only[qL,List.foldl_nil];refine jo fun i=>?_;have hm:=jW x (Nat.two_pow_pos k);have hm1:=jW x (Nat.two_pow_pos (k+1))
  have e:∀i,(2^k-1-x%2^k).testBit i=(decide (i<k)&& !x.testBit i):=fun i=>by
   rw[show 2^k-1-x%2^k=2^k-(x%2^k+1) by omega,jZ hm,jS];by_cases h:i<k<;>simp[h]
  have e1:(2^(k+1)-1-x%2^(k+1)).testBit i=(decide (i<k+1)&& !x.testBit i):=by
   rw[show 2^(k+1)-1-x%2^(k+1)=2^(k+1)-(x%2^(k+1)+1) by omega,jZ hm1,jS];by_cases h:i<k+1<;>simp[h]
  rw[e1];split
  ·rename_i hb
   rw[e];by_cases hik:i=k
   ·subst hik;simp[hb]
   exact ZmE3
  rename_i hb;rw[Nat.testBit_or,e,aA];by_cases hik:k=i
  ·subst hik;simp[hb]
  exact ZmE4
def q7B(x k:Nat):Nat:=(List.range k).foldl (fun y c=>if x.testBit c then y else y|||2^c) 0
theorem q5q(x k:Nat):q7B x (k+1)=if x.testBit k then q7B x k else q7B x k|||2^k:=by
 unfold q7B;rw[jz,qZ];rfl
theorem q7C{x:Nat}(hx:x<2^256):q7B x 256=X5 x:=by
 unfold q7B;rw[qcc,Nat.mod_eq_of_lt hx];rfl
theorem oM{w w1 w2:World}{row row':Option Nat}(h:w.grownBy w1 row)(hg:w1.grownBy w2 row')(hr:∀k,row'=some k->w.heap.size<=k):w.grownBy w2 row:=
 ⟨hg.os.trans h.os,hg.tape.trans h.tape,hg.output.trans h.output,qc h.size hg.size,fun k hk h1=>by
  rw[hg.block k (qe hk h.size) (fun e=>by have:=hr k e.symm;omega),h.block k hk h1]⟩
structure yO(w:World)(b:Nat)(x:Nd):Prop where
 own:Own w b 98 (.slice (some ⟨b,0,none⟩) 8 8) (ndC x)
theorem yO.up{w w':World}{b:Nat}{x:Nd}(h:yO w b x)(hb:Below w.heap.size w w'):yO w' b x:=⟨h.own.up hb⟩
theorem yO.keep{w w':World}{b:Nat}{x:Nd}{row:Option Nat}(h:yO w b x)(hg:w.grownBy w' row)(hne:row≠some b):yO w' b x:=⟨h.own.keep hg (.inr (fun e=>hne e.symm))⟩
theorem q7D(x:Nd):(ndA x).toList=ndC x:=rfl
theorem q2C(w:World)(x:Nd)(A:Array Value)(hA:A=ndA x):yO (w.alloc (.cells A 98)) w.heap.size x:=by
 subst hA;exact⟨cN w w.heap.size (ndA x) 98 (by simp[ndA]) (qb _)⟩
theorem yO.load{w:World}{b:Nat}{x:Nd}(h:yO w b x):(loadVar 98 ⟨b,0,none⟩).run prog w=.ok (.agg (ndA x)) w:=U5 h.own _ underlying98 rfl (by kernel_rfl)
theorem q8E:q1o<2^256:=M7 _ _
theorem qaD:nS 97 122<2^256:=M7 _ _
theorem qbo:nS 65 90<2^256:=M7 _ _
theorem lB.heap{w:World}{g x:Nat}(h:lB w g x):w.heap[g]? =some (.cells (wsV x).toArray 53 (0,0)):=by
 obtain⟨A,hg,-,hA⟩:=h.own.whole;rw[hg,<-hA]
theorem cW{C:World->Prop}{o:Oper}{a:Act}{K:Act->Prop}(x:Operand)(ho:o.op=.load 53 x)(g:Nat)(hx:a.eval x=.pointer (some ⟨g,0,none⟩))(s:Nat)
  (hg:∀w',C w'->lB w' g s) (h:K (a.put o.dst (fR s))):o.quiet prog a C K:=
 I7 53 4 x ho g hx (wsV s).toArray rfl (fun w' hw=>(hg w' hw).heap) _ underlying53 rfl (by kernel_rfl) h
end Go.Cm
namespace Go.Cm
def qbw:List Nd->List Bool
 |[]=>[]
 |x::r=>
  let k:=(qbw r).take x.n.toNat
  (if x.kd=2\/x.kd=5\/x.kd=7 then true else if x.kd=3\/x.kd=6 then k.all id else if x.kd=4 then k.any id else if x.kd=8 then k.all id||decide (x.lo=0)else false)::(qbw r).drop x.n.toNat
def qce(l:List Nd):Bool:=decide (Chk l)&&(qbw l).headD false
def qbW(c:UInt8):Bool:=decide (97<=c.toNat)&&decide (c.toNat<=122)
def qcf(c:UInt8):Bool:=qbW c||(decide (48<=c.toNat)&&decide (c.toNat<=57))||c==95
def qbX(c:UInt8):Bool:=c==32||c==9||c==13
def qbx(p:UInt8->Bool)(s:eZ):Nat:=(s.takeWhile p).length
def qby(s:eZ):Bool:= !s.isEmpty&&(qbW (s.headD 0)&&(decide (qbx qcf s=s.length)&&decide (s.length<=16)))
def qbz(s:eZ):eZ:=(s.reverse.dropWhile qbX).reverse
abbrev Rul:=eZ×eZ
def qbA(t:eZ)(at_:Nat):List (Nat×Nat):=if(q7w t).2.1≠0 then [(4,at_),((q7w t).2.1,(q7w t).2.2)]else if qce (q7w t).1 then [(27,at_)]else []
structure qaQ(x:Rul):Prop where
 nm:qby x.1=true
 ex:∀a,qbA x.2 a=[]
 nl:(10:UInt8)∉x.2
 hd:∀c,x.2.head?=some c->qbX c=false
 tr:qbz x.2=x.2
structure q0y(l:List Rul):Prop where
 all:∀x∈l,qaQ x
 nd:(l.map (·.1)).Nodup
 len:l.length<=32
theorem q0y.nil:q0y []:=⟨by simp,by simp,by simp⟩
theorem q0y.snoc{l:List Rul}{x:Rul}(h:q0y l)(hx:qaQ x)(hn:x.1∉l.map (·.1))(h32:l.length≠32):q0y (l++[x]):=by
 refine⟨fun y hy=>?_,?_,?_⟩
 ·rcases List.mem_append.1 hy with hy|hy
  ·exact h.all y hy
  rw[List.mem_singleton.1 hy];exact hx
 ·rw[qH,qJ,ju,List.nodup_append]
  exact⟨h.nd,by simp,fun a ha b hb=>by rw[List.mem_singleton.1 hb];intro e;exact hn (e▸ha)⟩
 have:=h.len;rw[qj,qE];omega
end Go.Cm
namespace Go.Cm
open Go.RowKit Go.Proofs
theorem lB.keepP{w w':World}{g b x:Nat}(h:lB w b x)(hg:w.grownBy w' (some g))(hne:g≠b):lB w' b x:=h.keep hg (fun e=>hne (by injection e))
theorem qbB:(0:Nat)<2^256:=Nat.two_pow_pos 256
theorem q9H{s:eZ}{z:PS}(h:(M6 s z).2.e=0)(hk:(M6 s z).1.2=false):∃c,(M6 s z).1.1=lX c:=by
 unfold M6 at h hk⊢;cases hn:nxR s (bZ z)with
 |none=>rw[hn]at h;exact absurd h (cP _ (by decide))
 |some c=>
  rw[hn]at h hk;simp only at h hk⊢;cases hk2:qax c with
  |some a=>rw[hk2]at hk;cases hk
  |none=>
   rw[hk2]at h;simp only at h⊢;cases hm:qay c with
   |some b=>exact⟨b,by dsimp only⟩
   |none=>
    rw[hm]at h;simp only at h⊢;by_cases hx:c=120
    ·rw[qw hx]at h⊢
     cases hq:q8B s (z.p+1)with
     |some b=>exact⟨b,by dsimp only⟩
     |none=>rw[hq]at h;exact absurd h (cP _ (by decide))
    rw[qv hx]at h;exact absurd h (cP _ (by decide))
theorem q6h{s:eZ}{z:PS}(h:(lA s z).2.e=0)(hk:(lA s z).1.2=false):∃c,(lA s z).1.1=lX c:=by
 unfold lA at h hk⊢;cases hn:nxR s z with
 |none=>rw[hn]at h;exact absurd h (cP _ (by decide))
 |some c=>
  rw[hn]at h hk;simp only at h hk⊢;by_cases hc:c=92
  ·rw[qw hc]at h hk⊢
   exact q9H h hk
  rw[qv hc]at h⊢;by_cases hd:c=45
  ·rw[qw hd]at h;exact absurd h (cP _ (by decide))
  rw[qv hd];refine⟨c,?_⟩;generalize lX c=x;rfl
theorem q6i(c:UInt8):Nat.log2 (lX c)=c.toNat:=by
 rw[q5l];exact Nat.log2_two_pow
theorem q0z(a:UInt8)(W:World):(Instr.index 9 (.string ⟨#[a]⟩) (.int .i64 0)).run prog W=.ok (.int .u8 (a.toNat:Nat)) W:=
 iU (P:=prog) 9 underlying9 (s:=⟨#[a]⟩) (i:=0) (by decide:0<1) W
theorem q7X{x:Nat}(hx:x<2^256)(Z:Array Value)(hZ:Z=z4)(W:World):(binOp .eql 53 (fR x) (.agg Z)).run prog W=.ok (.bool (decide (x=0))) W:=by
 have:=q1T W (wdR x 0:Nat) (wdR x 1:Nat) (wdR x 2:Nat) (wdR x 3:Nat) 0 0 0 0;rw[hZ];refine Eq.trans this ?_
 congr 2
 refine decide_eq_decide.2 ⟨fun h=>?_,fun h=>by subst h;simp[q5j]⟩;refine qaA hx (by decide) fun i hi=>?_;rw[q5j];obtain rfl|rfl|rfl|rfl:i=0\/i=1\/i=2\/i=3:=by omega
 all_goals omega
theorem q6j(W:World)(o:BinOp)(x y:Operand)(a:Nat)(Z:Array Value):(eqGuard o 53 x y (fR a) (.agg Z)).run prog W=.ok () W:=mN W o x y _ _
abbrev bH(w:World)(B:Nat)(v:Value)(l:List Nd):Prop:=eL 8 w B 98 v (l.map ndC)
def F4(w:World)(l:List Nd)(e:Ending)(w':World):Prop:=∃v,e=.returned v/\bH w' w.heap.size v l/\Below w.heap.size w w'
theorem bH.at{w:World}{B:Nat}{v:Value}{l:List Nd}(h:bH w B v l):bE w v l:=h.sl
theorem q9I(l:List Nd):∀x∈l.map ndC,x.length=8:=by
 intro x hx;obtain⟨y,-,rfl⟩:=List.mem_map.1 hx
 rfl
theorem q9J(l:List Nd):∀u∈(l.map ndC).flatten,u.oneCell'=true:=by
 intro u hu;obtain⟨c,hc,hu⟩:=List.mem_flatten.1 hu;obtain⟨y,-,rfl⟩:=List.mem_map.1 hc;simp only[ndC,jM,List.not_mem_nil,or_false]at hu;rcases hu with rfl|rfl|rfl|rfl|rfl|rfl|rfl|rfl<;>rfl
theorem yO.setN{w:World}{b:Nat}{x:Nd}(h:yO w b x)(n:Int):yO (w.setCell ⟨b,1,none⟩ (.int .i64 n)) b {x with n:=n}/\w.grownBy (w.setCell ⟨b,1,none⟩ (.int .i64 n)) (some b):=by
 obtain⟨h1,h2⟩:=h.own.store 1 (.int .i64 n);exact⟨⟨h1⟩,h2⟩
theorem yO.heap{w:World}{b:Nat}{x:Nd}(h:yO w b x):w.heap[b]? =some (.cells (ndA x) 98 (0,0)):=by
 obtain⟨A,hg,-,hA⟩:=h.own.whole;rw[hg,show ndA x=(ndC x).toArray from rfl,<-hA]
theorem q6k{ops:Array Oper}{rest:List Oper}{o:Oper}{a:Act}{w:World}{Q:Exit->Act->World->Prop}(hgd:o.guard=none)(y:Operand)(ho:o.op=.load 98 y)
  (b:Nat) (hx:a.eval y=.pointer (some ⟨b,0,none⟩)) (x:Nd) (hown:yO w b x)
  (h:wpList prog ops Q rest (a.put o.dst (.agg (ndA x))) w):wpList prog ops Q (o::rest) a w:=
 mZ hgd 98 8 y ho b hx (ndA x) rfl hown.heap _ underlying98 rfl (by kernel_rfl) h
theorem q3I{ops:Array Oper}{rest:List Oper}{o:Oper}{a:Act}{w:World}{Q:Exit->Act->World->Prop}(hgd:o.guard=none)(y:Operand)(ho:o.op=.load 98 y)
  (b:Nat) (hx:a.eval y=.pointer (some ⟨b,0,none⟩)) (k n a1 b1 c1 d1 lo hi:Int) (hown:yO w b ⟨k,n,a1,b1,c1,d1,lo,hi⟩)
  (h:wpList prog ops Q rest (a.put o.dst (.agg #[.int .i64 k,.int .i64 n,.int .u64 a1,.int .u64 b1,.int .u64 c1,.int .u64 d1,.int .i64 lo,.int .i64 hi])) w):wpList prog ops Q (o::rest) a w:=
 q6k hgd y ho b hx _ hown h
theorem yO.free{w:World}{b:Nat}{x:Nd}(h:yO w b x)(c:Nat):w.frozen? ⟨b,c,none⟩=false:=h.own.free c
theorem yO.c1{w:World}{b:Nat}{x:Nd}(h:yO w b x):w.cell? ⟨b,1,none⟩=some (.int .i64 x.n):=h.own.cell (by simp[ndC])
theorem yO.lt{w:World}{b:Nat}{x:Nd}(h:yO w b x):b<w.heap.size:=(h.own.lt b rfl).2
theorem q6l{ops:Array Oper}{rest:List Oper}{o:Oper}{a:Act}{w:World}{Q:Exit->Act->World->Prop}(hgd:o.guard=none)(x:Operand)(ho:o.op=.load 53 x)
  (g:Nat) (hx:a.eval x=.pointer (some ⟨g,0,none⟩)) (s:Nat) (hown:lB w g s)
  (h:wpList prog ops Q rest (a.put o.dst (.agg #[.int .u64 (wdR s 0:Nat),.int .u64 (wdR s 1:Nat),.int .u64 (wdR s 2:Nat),.int .u64 (wdR s 3:Nat)])) w):wpList prog ops Q (o::rest) a w:=
 bJ hgd x ho g hx s hown h
theorem F4.up{w w1:World}{l:List Nd}{e:Ending}{w':World}(h:F4 w1 l e w')(hb:Below w.heap.size w w1):F4 w l e w':=by
 obtain⟨v,he,ho,hb2⟩:=h;exact⟨v,he,ho.mono hb.size,hb.trans (hb2.mono hb.size)⟩
end Go.Cm
namespace Go.Cm
open Go.RowKit Go.Proofs
theorem bH.keepG{w w':World}{B g:Nat}{v:Value}{l:List Nd}(h:bH w B v l)(hg:w.grownBy w' (some g))(hB:g<B):bH w' B v l:=
 eL.keep h hg (by
  cases hv:v.ownBlock with
  |none=>exact .inl rfl
  |some q=>right;intro e;have:=(h.lt q hv).1;have:=qr e;omega)
end Go.Cm
namespace Go.Cm
open Go.RowKit Go.Proofs
theorem bH.slice{w:World}{B:Nat}{v:Value}{l:List Nd}(h:bH w B v l):∃oa cap,v=.slice oa l.length cap:=by
 obtain⟨oa,cap,b,off,hv,-,-⟩:=eL.sl h;exact⟨oa,cap,by rw[hv,qB]⟩
theorem yO.c0{w:World}{b:Nat}{x:Nd}(h:yO w b x):w.cell? ⟨b,0,none⟩=some (.int .i64 x.kd):=h.own.cell (by simp[ndC])
theorem q6m{w:World}{B E:Nat}{v:Value}{xs:List Value}(h:Own w B E v xs):∀q,v.ownBlock=some q->∃cur,w.heap[q]? =some (.cells cur E (0,0)):=by
 exact ZmE2
theorem q3J{k:Nat}{w:World}{B E:Nat}{v:Value}{l:List (List Value)}(h:eL k w B E v l):∀q,v.ownBlock=some q->∃cur,w.heap[q]? =some (.cells cur E (0,0)):=by
 exact ZmE2
theorem q0A{k:Nat}{w:World}{B B' E E':Nat}{v v':Value}{xs:List Value}{l:List (List Value)}(h:Own w B E v xs)(h':eL k w B' E' v' l)(hne:E≠E'):v'.ownBlock=none\/v'.ownBlock≠v.ownBlock:=by
 cases hq:v'.ownBlock with
 |none=>exact .inl rfl
 |some q=>
  right
  intro e;obtain⟨c1,h1⟩:=q3J h' q hq;obtain⟨c2,h2⟩:=q6m h q e.symm;rw[h1]at h2;injection h2 with h2;injection h2 with _ h2;exact hne h2.symm
theorem qaR{w:World}{B E g:Nat}{v:Value}{xs:List Value}(hg:g<B)(h:Own w B E v xs):v.ownBlock=none\/v.ownBlock≠some g:=by
 cases hv:v.ownBlock with
 |none=>exact .inl rfl
 |some q=>right;intro e;have h1:=(h.lt q hv).1;have h2:=qr e;omega
def iM(w:World)(B:Nat)(vs:List Value)(ls:List (List Nd)):Prop:=vs.length=ls.length/\∀i,i<ls.length->bH w B (vs.getD i undef) (ls.getD i [])
theorem iM.nil(w:World)(B:Nat):iM w B [] []:=⟨rfl,fun i hi=>absurd hi (qC i)⟩
theorem iM.all{w w':World}{B:Nat}{vs:List Value}{ls:List (List Nd)}(h:iM w B vs ls)(hk:∀v l,bH w B v l->bH w' B v l):iM w' B vs ls:=⟨h.1,fun i hi=>hk _ _ (h.2 i hi)⟩
theorem iM.snoc{w:World}{B:Nat}{vs:List Value}{ls:List (List Nd)}{v:Value}{l:List Nd}(h:iM w B vs ls)(hv:bH w B v l):iM w B (vs++[v]) (ls++[l]):=by
 refine⟨by simp[h.1],fun i hi=>?_⟩;rw[qj,qE]at hi;by_cases hlt:i<ls.length
 ·have h1:=h.2 i hlt
  have e1:(vs++[v]).getD i undef=vs.getD i undef:=by simp[List.getD,List.getElem?_append,show i<vs.length by rw[h.1];exact hlt]
  have e2:(ls++[l]).getD i []=ls.getD i []:=by simp[List.getD,List.getElem?_append,hlt]
  rw[e1,e2];exact h1
 obtain rfl:i=ls.length:=by omega
 have e1:(vs++[v]).getD ls.length undef=v:=by simp[List.getD,<-h.1]
 have e2:(ls++[l]).getD ls.length []=l:=by simp[List.getD]
 rw[e1,e2];exact hv
theorem iM.nodes{w w':World}{B:Nat}{vs:List Value}{ls:List (List Nd)}(h:iM w B vs ls)(hb:Below w.heap.size w w'):∀i,i<ls.length->bE w' (vs.getD i undef) (ls.getD i []):=fun i hi=>(bH.at (h.2 i hi)).up hb
def bv(l:List Bool):List Value:=l.map Value.bool
theorem qaV(l:eZ):bys ⟨l.toArray⟩=l:=rfl
end Go.Cm
