/- Walks of functions and plain facts, joined and squeezed by a program. Conditions: as each says. -/
import Derived.Laws.RangeAny
import Derived.Shelf.Abstract
import Derived.Laws.Bits64b
import Derived.Lib.TrailingZeros
import Derived.LaidSub
import Derived.Lib.LaidTab
import Derived.Test.YtcdaljipemapbaaDoorRXTA
set_option maxHeartbeats 8000000
set_option maxRecDepth 100000
set_option linter.unusedSimpArgs false
namespace Go.Cm
open Go.RowKit Go.Proofs
theorem cI {P : Program} (w : World) (κ : IntKind) (T E n : Nat) (hT : P.underlying T = some (.array n E)) (hE : P.underlying E = some (.int κ)) (hs : (P.info? E).map (·.size) = some 1)
    (xs ys : Array Value) (l m : List Int) (hl : l.length = n) (hm : m.length = n) (hx : ∀ i, i < n → xs[i]? = some (.int κ (l.getD i 0))) (hy : ∀ i, i < n → ys[i]? = some (.int κ (m.getD i 0))) (d : Nat) :
    (Op.equalIn (d + 2) T (.agg xs) (.agg ys)).run P w = .ok (decide (l = m)) w := by
  have hsz : ∀ W, (sizeOf E).run P W = .ok 1 W := fun W => by
    cases hq : P.info? E with
    | none => simp [hq] at hs
    | some inf => have : inf.size = 1 := by simpa [hq] using hs
                  simp [sizeOf, typeInfo, hq, this]
  have hag : ∀ W, (isAgg E).run P W = .ok false W := fun W => by unfold isAgg; rw [Sem.run_bind, run_underlying hE]; rfl
  have wU : ∀ (zs : Array Value) (q : List Int) (i : Nat) (W : World), zs[i]? = some (.int κ (q.getD i 0)) → (part E zs (i * 1)).run P W = .ok (.int κ (q.getD i 0)) W := fun zs q i W h => by
    unfold part; rw [Sem.run_bind, hag]; simp only [Result.andThen, Nat.mul_one, h]; rfl
  have hel : ∀ (x y : Int) (W : World), (Op.equalIn (d + 1) E (.int κ x) (.int κ y)).run P W = .ok (x == y) W := fun x y W => by
    rw [Op.equalIn, Sem.run_bind, run_underlying hE]; simp [Result.andThen]
  rw [Op.equalIn, Sem.run_bind, run_underlying hT]
  simp only [Result.andThen_ok, Sem.run_bind, hsz]
  have key : ∀ (k s : Nat), s + k = n → l.take s = m.take s → ∀ W, (forIn (List.range' s k) ((none, ()) : Option Bool × Unit) fun i r => do
      let __do_lift ← part E xs (i * 1)
      let __do_lift_1 ← part E ys (i * 1)
      let __do_lift ← Op.equalIn (d + 1) E __do_lift __do_lift_1
      if (!__do_lift) = true then pure (ForInStep.done (some false, ())) else pure (ForInStep.yield (none, ())) : Sem (Option Bool × Unit)).run P W = .ok (if l = m then (none, ()) else (some false, ())) W := by
    intro k
    induction k with
    | zero =>
      intro s hs' ht W
      have : l = m := by rwa [List.take_of_length_le (by omega), List.take_of_length_le (by omega)] at ht
      simp [this]
    | succ k ih =>
      intro s hs' ht W
      simp only [List.range'_succ, List.forIn_cons, Sem.run_bind, wU xs l s W (hx s (by omega)), Result.andThen_ok, wU ys m s W (hy s (by omega)), hel]
      by_cases he : l.getD s 0 = m.getD s 0
      · have h2 : l.take (s + 1) = m.take (s + 1) := by
          have he' : l[s]'(by omega) = m[s]'(by omega) := by simpa [List.getD, show s < l.length by omega, show s < m.length by omega] using he
          rw [List.take_succ_eq_append_getElem (by omega), List.take_succ_eq_append_getElem (by omega), ht, he']
        have h3 := ih (s + 1) (by omega) h2 W
        simp only [he, beq_self_eq_true, Bool.not_true, Bool.false_eq_true, if_false]
        exact h3
      · have hne : l ≠ m := fun h => he (by rw [h])
        have hb : (l.getD s 0 == m.getD s 0) = false := by simpa using he
        simp only [hb, Bool.not_false, if_true, Sem.run_pure, Result.andThen_ok, hne, if_false]
  have h0 := key n 0 (by omega) (by simp) w
  rw [Std.Legacy.Range.forIn_eq_forIn_range']
  simp only [Std.Legacy.Range.size, Nat.sub_zero, Nat.add_sub_cancel, Nat.div_one]
  rw [h0]
  by_cases he : l = m <;> simp [he]
def kU(a b c d:Int):Array Value:=#[.int .u64 a,.int .u64 b,.int .u64 c,.int .u64 d]
def ndA(x:Nd):Array Value:=#[.int .i64 x.kd,.int .i64 x.n,.int .u64 x.a,.int .u64 x.b,.int .u64 x.c,.int .u64 x.d,.int .i64 x.lo,.int .i64 x.hi]
theorem lE(a b c d:Int):∀i,i<4->(kU a b c d)[i]? =some (.int .u64 ([a,b,c,d].getD i 0)):=by
 intro i hi
 rcases(show i=0\/i=1\/i=2\/i=3 by omega)with rfl|rfl|rfl|rfl<;>rfl
theorem jP(W:World)(q:Nat)(a b c d a' b' c' d':Int):(Op.equalIn (q+2) 72 (.agg (kU a b c d)) (.agg (kU a' b' c' d'))).run Tryd.prog W=.ok (decide ([a,b,c,d]=[a',b',c',d'])) W:=
 cI W .u64 72 70 4 Tryd.underlying72 Tryd.underlying70 (by kernel_rfl) _ _ [a,b,c,d] [a',b',c',d'] rfl rfl (lE a b c d) (lE a' b' c' d') q
theorem kA(W:World)(a b c d a' b' c' d':Int):(binOp .eql 72 (.agg (kU a b c d)) (.agg (kU a' b' c' d'))).run Tryd.prog W=.ok (.bool (decide ([a,b,c,d]=[a',b',c',d']))) W:=by
 rw[run_eql_struct,jP W 9998];rfl
theorem kB(W:World)(a b c d a' b' c' d':Int):(binOp .neq 72 (.agg (kU a b c d)) (.agg (kU a' b' c' d'))).run Tryd.prog W=.ok (.bool (!decide ([a,b,c,d]=[a',b',c',d']))) W:=by
 rw[run_neq_struct,jP W 9998];rfl
theorem nL(W:World)(x:Nd):(part 72 (ndA x) 2).run Tryd.prog W=.ok (.agg (kU x.a x.b x.c x.d)) W:=by
 unfold part;have h1:(isAgg 72).run Tryd.prog W=.ok true W:=by unfold isAgg;rw[Sem.run_bind,run_underlying Tryd.underlying72];rfl
 rw[Sem.run_bind,h1];simp only[Result.andThen_ok,if_true,Sem.run_bind,cM (P:=Tryd.prog) (E:=72) (k:=4) (by kernel_rfl)]
 rfl
theorem cN(W:World)(A:Array Value)(o:Nat)(v:Int)(h:A[o]? =some (.int .i64 v)):(part 3 A o).run Tryd.prog W=.ok (.int .i64 v) W:=by
 unfold part;have h1:(isAgg 3).run Tryd.prog W=.ok false W:=by unfold isAgg;rw[Sem.run_bind,run_underlying Tryd.underlying3];rfl
 rw[Sem.run_bind,h1];simp only[Result.andThen_ok,h];rfl
def gW(x y:Nd):Prop:=x.kd=y.kd/\x.n=y.n/\[x.a,x.b,x.c,x.d]=[y.a,y.b,y.c,y.d]/\x.lo=y.lo/\x.hi=y.hi
instance(x y:Nd):Decidable (gW x y):=by unfold gW;infer_instance
theorem dO(W:World)(x y:Nd):(Op.equalIn 10000 74 (.agg (ndA x)) (.agg (ndA y))).run Tryd.prog W=.ok (decide (gW x y)) W:=by
 have hu:Tryd.prog.underlying 74=some (.struct (Tryd.prog.fieldsOf 74)):=by simp only[Program.fieldsOf,Tryd.underlying74]
 rw[run_equalIn_struct W 9999 74 _ _ hu (by kernel_rfl)]
 simp only[Program.fieldsOf,Tryd.underlying74];have p0:=fun(W:World) (z:Nd)=>cN W (ndA z) 0 z.kd rfl
 have p1:=fun(W:World) (z:Nd)=>cN W (ndA z) 1 z.n rfl
 have p6:=fun(W:World) (z:Nd)=>cN W (ndA z) 6 z.lo rfl
 have p7:=fun(W:World) (z:Nd)=>cN W (ndA z) 7 z.hi rfl
 have ei:∀(a b:Int) (W:World),(Op.equalIn 9999 3 (.int .i64 a) (.int .i64 b)).run Tryd.prog W=.ok (a==b) W:=fun a b W=>run_equalIn_int W 9998 3 .i64 .i64 a b Tryd.underlying3
 have es:∀(W:World),(Op.equalIn 9999 72 (.agg (kU x.a x.b x.c x.d)) (.agg (kU y.a y.b y.c y.d))).run Tryd.prog W=.ok (decide ([x.a,x.b,x.c,x.d]=[y.a,y.b,y.c,y.d])) W:=fun W=>jP W 9997 _ _ _ _ _ _ _ _
 simp only[Op.eqFields,ne_eq,String.reduceEq,not_false_eq_true,if_true,Sem.run_bind,Sem.run_ite,Sem.run_pure,p0,p1,p6,p7,nL,Result.andThen_ok,ei,es]
 have hd:decide (gW x y)=(x.kd==y.kd&&(x.n==y.n&&(decide ([x.a,x.b,x.c,x.d]=[y.a,y.b,y.c,y.d])&&(x.lo==y.lo&&x.hi==y.hi)))):=by
  rw[Bool.eq_iff_iff,decide_eq_true_iff];unfold gW;simp only[Bool.and_eq_true,beq_iff_eq,decide_eq_true_iff]
 rw[hd];generalize (x.kd==y.kd)=b1;generalize (x.n==y.n)=b2;generalize (x.lo==y.lo)=b4;generalize (x.hi==y.hi)=b5;generalize decide ([x.a,x.b,x.c,x.d]=[y.a,y.b,y.c,y.d])=b3
 cases b1<;>cases b2<;>cases b3<;>cases b4<;>cases b5<;>rfl
theorem gX(W:World)(x y:Nd):(binOp .eql 74 (.agg (ndA x)) (.agg (ndA y))).run Tryd.prog W=.ok (.bool (decide (gW x y))) W:=by
 rw[run_eql_struct,dO];rfl
theorem d8{w:World}(lo hi:Int):Calls Tryd.prog 57 #[.int .i64 lo,.int .i64 hi] w fun e w'=>e=.returned (.bool (decide (0<=lo/\lo<=30/\(hi= -1\/(lo<=hi/\hi<=30)))))/\∃x,w'=ext w x:=by
 obtain⟨r,hr⟩:∃r,r=decide (0<=lo/\lo<=30/\(hi= -1\/(lo<=hi/\hi<=30))):=⟨_,rfl⟩;have HR:=q9 hr;rw[<-hr];clear hr
 go_enter Tryd.func57,Tryd.ntmps57
 go_wp2
 all_goals(go_ret;refine⟨congrArg (fun b=>Ending.returned (Value.bool b)) ?_,jt _⟩;rw[HR.out,Bool.eq_iff_iff];simp;omega)
theorem sD(W:World)(a b c d a' b' c' d':Int):(binOp .neq 72 (.agg #[.int .u64 a,.int .u64 b,.int .u64 c,.int .u64 d]) (.agg #[.int .u64 a',.int .u64 b',.int .u64 c',.int .u64 d'])).run Tryd.prog W=.ok (.bool (!decide (a=a'/\b=b'/\c=c'/\d=d'))) W:=by
 have h:=kB W a b c d a' b' c' d';simp only[kU,List.cons.injEq,and_true]at h
 exact h
theorem lF(W:World)(a b c d a' b' c' d':Int):(binOp .eql 72 (.agg #[.int .u64 a,.int .u64 b,.int .u64 c,.int .u64 d]) (.agg #[.int .u64 a',.int .u64 b',.int .u64 c',.int .u64 d'])).run Tryd.prog W=.ok (.bool (decide (a=a'/\b=b'/\c=c'/\d=d'))) W:=by
 have h:=kA W a b c d a' b' c' d';simp only[kU,List.cons.injEq,and_true]at h
 exact h
theorem nM(W:World)(k n a b c d lo hi k' n' a' b' c' d' lo' hi':Int):(binOp .eql 74 (.agg #[.int .i64 k,.int .i64 n,.int .u64 a,.int .u64 b,.int .u64 c,.int .u64 d,.int .i64 lo,.int .i64 hi]) (.agg #[.int .i64 k',.int .i64 n',.int .u64 a',.int .u64 b',.int .u64 c',.int .u64 d',.int .i64 lo',.int .i64 hi'])).run Tryd.prog W=
  .ok (.bool (decide (k=k'/\n=n'/\(a=a'/\b=b'/\c=c'/\d=d')/\lo=lo'/\hi=hi'))) W:=by
 have h:=gX W ⟨k,n,a,b,c,d,lo,hi⟩ ⟨k',n',a',b',c',d',lo',hi'⟩;simp only[ndA,gW,List.cons.injEq,and_true]at h
 exact h
theorem b6(W:World)(o:BinOp)(x y:Operand)(X Y:Array Value):(eqGuard o 72 x y (.agg X) (.agg Y)).run Tryd.prog W=.ok () W:=run_eqGuard_agg W o 72 x y X Y (by kernel_rfl)
theorem fK(W:World)(o:BinOp)(x y:Operand)(X Y:Array Value):(eqGuard o 74 x y (.agg X) (.agg Y)).run Tryd.prog W=.ok () W:=run_eqGuard_agg W o 74 x y X Y (by kernel_rfl)
theorem lG{w:World}(x:Nd):Calls Tryd.prog 46 #[.agg (ndA x)] w fun e w'=>e=.returned (.bool (decide (okN x)))/\∃x,w'=ext w x:=by
 have HCN:=q9 (fun w=>d8 (w:=w) x.lo x.hi)
 obtain⟨r,hr⟩:∃r,r=decide (okN x):=⟨_,rfl⟩;have HR:=q9 hr;rw[<-hr];have c1:=sD;have c2:=lF;have c3:=nM;have g1:=b6;have g2:=fK;clear hr;obtain⟨k,n,a,b,c,d,lo,hi⟩:=x;unfold ndA;simp only at HCN
 go_enter Tryd.func46,Tryd.ntmps46
 by_cases h1:k=1
 ·go_wp2
  all_goals(go_ret;refine⟨congrArg (fun b=>Ending.returned (Value.bool b)) ?_,qv ?_⟩)
  all_goals first
   |(rw[HR.out,Bool.eq_iff_iff];unfold okN aO gJ;simp;omega)
   |(repeat' first|exact qi _ _|refine Below.setCell ?_ ?_ _|refine Below.alloc ?_ ?_ _|(simp;done)|(simp;omega))
 ·skip
  by_cases h2:k=2
  ·go_wp2
   all_goals(go_ret;refine⟨congrArg (fun b=>Ending.returned (Value.bool b)) ?_,qv ?_⟩)
   all_goals first
    |(rw[HR.out,Bool.eq_iff_iff];unfold okN aO gJ;simp;omega)
    |(repeat' first|exact qi _ _|refine Below.setCell ?_ ?_ _|refine Below.alloc ?_ ?_ _|(simp;done)|(simp;omega))
  ·skip
   by_cases h3:k=3
   ·go_wp2
    all_goals(go_ret;refine⟨congrArg (fun b=>Ending.returned (Value.bool b)) ?_,qv ?_⟩)
    all_goals first
     |(rw[HR.out,Bool.eq_iff_iff];unfold okN aO gJ;simp;omega)
     |(repeat' first|exact qi _ _|refine Below.setCell ?_ ?_ _|refine Below.alloc ?_ ?_ _|(simp;done)|(simp;omega))
   ·skip
    by_cases h4:k=4
    ·go_wp2
     all_goals(go_ret;refine⟨congrArg (fun b=>Ending.returned (Value.bool b)) ?_,qv ?_⟩)
     all_goals first
      |(rw[HR.out,Bool.eq_iff_iff];unfold okN aO gJ;simp;omega)
      |(repeat' first|exact qi _ _|refine Below.setCell ?_ ?_ _|refine Below.alloc ?_ ?_ _|(simp;done)|(simp;omega))
    ·skip
     by_cases h5:k=5
     ·go_wp2
      all_goals(go_ret;refine⟨congrArg (fun b=>Ending.returned (Value.bool b)) ?_,qv ?_⟩)
      all_goals first
       |(rw[HR.out,Bool.eq_iff_iff];unfold okN aO gJ;simp;omega)
       |(repeat' first|exact qi _ _|refine Below.setCell ?_ ?_ _|refine Below.alloc ?_ ?_ _|(simp;done)|(simp;omega))
     ·skip
      by_cases h6:k=6
      ·go_wp2
       all_goals(go_ret;refine⟨congrArg (fun b=>Ending.returned (Value.bool b)) ?_,qv ?_⟩)
       all_goals first
        |(rw[HR.out,Bool.eq_iff_iff];unfold okN aO gJ;simp;omega)
        |(repeat' first|exact qi _ _|refine Below.setCell ?_ ?_ _|refine Below.alloc ?_ ?_ _|(simp;done)|(simp;omega))
      ·skip
       by_cases h7:k=7
       ·go_wp2
        all_goals(go_ret;refine⟨congrArg (fun b=>Ending.returned (Value.bool b)) ?_,qv ?_⟩)
        all_goals first
         |(rw[HR.out,Bool.eq_iff_iff];unfold okN aO gJ;simp;omega)
         |(repeat' first|exact qi _ _|refine Below.setCell ?_ ?_ _|refine Below.alloc ?_ ?_ _|(simp;done)|(simp;omega))
       ·skip
        by_cases h8:k=8
        ·go_wp2_with(with_reducible go_at_call 57;refine(HCN.out _).mono ?_;rintro en w' ⟨rfl,x5,rfl⟩)
         all_goals(go_ret;refine⟨congrArg (fun b=>Ending.returned (Value.bool b)) ?_,qv ?_⟩)
         all_goals first
          |(rw[HR.out,Bool.eq_iff_iff];unfold okN aO gJ;simp;omega)
          |(repeat' first|exact qi _ _|refine Below.setCell ?_ ?_ _|refine Below.alloc ?_ ?_ _|refine qL ?_ _|(simp;done)|(simp;omega))
        ·skip
         go_wp2
         all_goals(go_ret;refine⟨congrArg (fun b=>Ending.returned (Value.bool b)) ?_,qv ?_⟩)
         all_goals first
          |(rw[HR.out,Bool.eq_iff_iff];unfold okN aO gJ;simp;omega)
          |(repeat' first|exact qi _ _|refine Below.setCell ?_ ?_ _|refine Below.alloc ?_ ?_ _|(simp;done)|(simp;omega))
def aC(l:List Nd):Int:=if Chk l then 0 else 4
theorem pM(x:Nd)(c:Nat):(ndC x).getD c undef=(ndA x).getD c undef:=by unfold ndC ndA;simp[List.getD,Array.getD_eq_getD_getElem?]
theorem sE(l:List Nd)(q:Nat)(h:q<l.length):l.getD q zN=l[q]:=by simp[List.getD,h]
theorem sF{w:World}{v:Value}{l:List Nd}(h:j4 w v l):
  Calls Tryd.prog 32 #[v] w fun e w'=>e=.returned (.int .i64 (aC l))/\∃x,w'=ext w x:=by
 have B0:=q9 (fun hl=>uL h hl 0)
 obtain⟨oa,cap,b,off,rfl,hd,hc⟩:=h.open;have hix:=bX hd;have HC:Hid (∀i,i<l.length->∀c,c<8->w.cell? ⟨b,off+i*8+c,none⟩=some ((ndA (l.getD i zN)).getD c undef)):=q9 (fun i hi c h8=>by rw[hc i hi c h8,pM])
 have HB:=q9 hd.hblk;have hm:=hd.len;obtain⟨R,hR⟩:∃R,R=aC l:=⟨_,rfl⟩;have HR:=q9 hR;have HF:Hid (∀w k n a b c d lo hi,Calls Tryd.prog 46 #[.agg #[.int .i64 k,.int .i64 n,.int .u64 a,.int .u64 b,.int .u64 c,.int .u64 d,.int .i64 lo,.int .i64 hi]] w fun e w'=>e=.returned (.bool (decide (okN ⟨k,n,a,b,c,d,lo,hi⟩)))/\∃x,w'=ext w x):=q9 (fun w k n a b c d lo hi=>lG ⟨k,n,a,b,c,d,lo,hi⟩)
 have H4:Hid (¬Chk l->R=4):=q9 (fun h=>by rw[hR];unfold aC;rw[if_neg h])
 have H0:Hid (Chk l->R=0):=q9 (fun h=>by rw[hR];unfold aC;rw[if_pos h])
 have HCH:Hid (Chk l↔(l.length<=400/\l.length≠0/\i7 l.length 1 l 0=l.length/\∀x∈l,okN x)):=q9 (by unfold Chk;exact Iff.rfl)
 rw[<-hR];clear h hd hc hR
 go_enter Tryd.func32,Tryd.ntmps32
 by_cases h0:l.length=0
 ·have HV:=q9 (H4.out (fun h=>(HCH.out.1 h).2.1 h0))
  go_wp2;go_ret
  exact⟨by rw[HV.out];rfl,jt _⟩
 ·by_cases h1:400<l.length
  ·have HV:=q9 (H4.out (fun h=>by have:=(HCH.out.1 h).1;omega))
   go_wp2;go_ret
   exact⟨by rw[HV.out];rfl,jt _⟩
  ·have hb0:((l.length:Int)==0)=false:=by simpa using h0
   have hb1:decide ((400:Int)<l.length)=false:=by simp;omega
   have HE:=q9 (B0.out (by omega))
   obtain⟨z,hz⟩:∃z,z=i7 l.length 1 (l.drop 0) 0:=⟨_,rfl⟩;rw[<-hz]at HE;rw[List.drop_zero]at hz;rw[show((0:Nat):Int)=0 from rfl]at HE
   by_cases h2:z=l.length
   ·have HZ:=q9 (hz.symm.trans h2)
    clear hz;subst h2
    go_wp2_with(with_reducible go_at_call 45;refine(HE.out).mono ?_;rintro en w' ⟨rfl,x1,rfl⟩)
    go_loopg [22] (l.length) (fun gk iv wr=>∃j:Nat,iv=.int .i64 j/\j<=l.length/\(∀q,q<j->okN (l.getD q zN))/\(∃x,wr=ext w x)/\gk=l.length-j)
    case atStart=>exact⟨0,rfl,qc _,fun q hq=>absurd hq (Nat.not_lt_zero q),⟨x1,rfl⟩,rfl⟩
    case round=>
     obtain⟨j,rfl,hj,hall,⟨xr,rfl⟩,rfl⟩:=hrel;have HA:=q9 hall;clear hall
     by_cases hlt:j<l.length
     ·have hcell:=HC.out j hlt
      have HBJ:=q9 (HB.out (by omega))
      obtain⟨y,hy⟩:∃y,y=l.getD j zN:=⟨_,rfl⟩;rw[<-hy]at hcell;have HY:=q9 hy;clear hy;obtain⟨k,n,a,b',c,d,lo,hi⟩:=y;have HCE:Hid (∀c',c'<8->(ext w xr).cell? ⟨b,off+j*8+c',none⟩=some ((#[.int .i64 k,.int .i64 n,.int .u64 a,.int .u64 b',.int .u64 c,.int .u64 d,.int .i64 lo,.int .i64 hi]:Array Value).getD c' undef)):=q9 (fun c' h=>by rw[cell?_ext _ _ _ _ HBJ.out];exact hcell c' h)
      clear hcell;have HF1:=q9 (fun w=>HF.out w k n a b' c d lo hi)
      by_cases hok:okN ⟨k,n,a,b',c,d,lo,hi⟩
      ·have hdo:decide (okN ⟨k,n,a,b',c,d,lo,hi⟩)=true:=by simpa using hok
       have HOK:=q9 hok;clear hok;rw[hdo]at HF1
       go_wp2_with(first|(refine qY rfl 74 _ rfl b (off+j*8) 8 rfl _ _ HCE.out rfl Tryd.underlying74 rfl (by kernel_rfl) ?_)|((with_reducible go_at_call 46);refine(HF1.out _).mono ?_;rintro en w' ⟨rfl,x2,rfl⟩))
       go_roundg (l.length-(j+1))
       case measure=>omega
       case rel=>
        refine⟨j+1,by go_num,by omega,fun q hq=>?_,qv (qL (Below.alloc (qB w xr) (i6 w xr) _) x2),rfl⟩
        by_cases hqj:q=j
        ·rw[hqj,<-HY.out];exact HOK.out
        ·exact HA.out q (by omega)
      ·have hdo:decide (okN ⟨k,n,a,b',c,d,lo,hi⟩)=false:=by simpa using hok
       have HV:=q9 (H4.out (fun h=>hok (by rw[HY.out];exact(HCH.out.1 h).2.2.2 _ (by rw[sE l j hlt];exact List.getElem_mem hlt))))
       clear hok;rw[hdo]at HF1
       go_wp2_with(first|(refine qY rfl 74 _ rfl b (off+j*8) 8 rfl _ _ HCE.out rfl Tryd.underlying74 rfl (by kernel_rfl) ?_)|((with_reducible go_at_call 46);refine(HF1.out _).mono ?_;rintro en w' ⟨rfl,x2,rfl⟩))
       go_ret
       exact⟨by rw[HV.out];rfl,qv (qL (Below.alloc (qB w xr) (i6 w xr) _) x2)⟩
     ·have HV:=q9 (H0.out (HCH.out.2 ⟨by omega,h0,HZ.out,fun y hy=>by
       obtain⟨q,hq,rfl⟩:=List.getElem_of_mem hy;have:=HA.out q (by omega)
       rwa [sE l q hq]at this⟩))
      go_wp2;go_ret
      exact⟨by rw[HV.out];rfl,xr,rfl⟩
   ·have HV:=q9 (H4.out (fun h=>h2 (hz.trans (HCH.out.1 h).2.2.1)))
    clear hz
    go_wp2_with(with_reducible go_at_call 45;refine(HE.out).mono ?_;rintro en w' ⟨rfl,x1,rfl⟩)
    go_ret
    exact⟨by rw[HV.out];rfl,x1,rfl⟩
end Go.Cm
namespace Go.Cm
def bD:List Nd->List Bool
 |[]=>[]
 |x::r=>
  let k:=(bD r).take x.n.toNat
  (if x.kd=2\/x.kd=5\/x.kd=7 then true else if x.kd=3\/x.kd=6 then k.all id else if x.kd=4 then k.any id else if x.kd=8 then k.all id||decide (x.lo=0)else false)::(bD r).drop x.n.toNat
def nA(l:List Nd):Bool:=decide (Chk l)&&(bD l).headD false
def nB(c:UInt8):Bool:=decide (97<=c.toNat)&&decide (c.toNat<=122)
def bE(c:UInt8):Bool:=nB c||(decide (48<=c.toNat)&&decide (c.toNat<=57))||c==95
def jm(c:UInt8):Bool:=c==32||c==9||c==13
def dN(c:UInt8):Bool:=c != 10
def qK(p:UInt8->Bool)(s:qM):Nat:=(s.takeWhile p).length
def a6(s:qM):Bool:= !s.isEmpty&&(nB (s.headD 0)&&(decide (qK bE s=s.length)&&decide (s.length<=16)))
def jD(s:qM):qM:=(s.reverse.dropWhile jm).reverse
abbrev Rul:=qM×qM
def bL(t:qM)(at_:Nat):List (Nat×Nat):=if(gO t).2.1≠0 then [(4,at_),((gO t).2.1,(gO t).2.2)]else if nA (gO t).1 then [(27,at_)]else []
def jy(l:List Rul)(s:qM)(at_:Nat):List Rul×List (Nat×Nat):=
 let fr:=qK jm s
 let rest:=s.drop fr
 if rest=[]\/rest.headD 0=35 then(l,[])
 else
  let name:=rest.take (qK bE rest)
  if a6 name=false then(l,[(20,at_+fr)])
  else
   let tq:=fr+name.length
   let to2:=tq+qK jm (s.drop tq)
   if to2=s.length\/s.getD to2 0≠61 then(l,[(4,at_+to2)])
   else if l.any (fun x=>x.1==name)then(l,[(19,at_+fr)])
   else if l.length=32 then(l,[(3,at_+fr)])
   else
    let to4:=to2+1+qK jm (s.drop (to2+1))
    let b:=bL (jD (s.drop to4)) (at_+to4)
    if b≠[]then(l,b)else(l++[(name,jD (s.drop to4))],[])
def jz(s:qM):Nat->Nat->List Rul->List Rul×List (Nat×Nat)
 |0,_,l=>(l,[])
 |f+1,at_,l=>
  if at_<s.length then
   let n:=qK dN (s.drop at_)
   let r:=jy l ((s.drop at_).take n) at_
   if r.2≠[]then([],r.2)else jz s f (at_+n+1) r.1
  else if l=[]then([],[(17,s.length)])else(l,[])
def qU(s:qM):List Rul×List (Nat×Nat):=if 8192<s.length then([],[(3,8192)])else jz s (s.length+1) 0 []
def j8(l:List Rul):qM:=l.flatMap fun x=>x.1++[32,61,32]++x.2++[10]
end Go.Cm
namespace Go.Cm
open Go.RowKit Go.Proofs
theorem sG(s:ByteArray)(i:Nat):s.get! i=(bys s).getD i 0:=by
 show s.data[i]! =_
 simp[bys,List.getD]
 cases h:s.data[i]? <;>simp[h,getElem!_def]
 rfl
theorem kC{s:ByteArray}{pos:Nat}(hp:((bys s).getD pos 0).toNat<128):Utf8.decode s pos=(((bys s).getD pos 0).toNat,1):=by
 simp only[Utf8.decode,Nat.add_zero,sG,hp,if_true]
theorem lH{s:ByteArray}{pos:Nat}(h:pos<s.size)(hp:128<=((bys s).getD pos 0).toNat):128<=(Utf8.decode s pos).1/\1<=(Utf8.decode s pos).2/\∀j,j<(Utf8.decode s pos).2->pos+j<s.size/\128<=((bys s).getD (pos+j) 0).toNat:=by
 have hn:¬((bys s).getD pos 0).toNat<128:=by omega
 have k0:∀j,j<1->pos+j<s.size/\128<=((bys s).getD (pos+j) 0).toNat:=fun j hj=>by
  obtain rfl:j=0:=by omega
  exact⟨h,hp⟩
 have kc:∀k,(decide (pos+k<s.size)&&((bys s).getD (pos+k) 0).toNat/64==2)=true->pos+k<s.size/\128<=((bys s).getD (pos+k) 0).toNat:=fun k hk=>by
  simp only[Bool.and_eq_true,decide_eq_true_eq,beq_iff_eq]at hk
  exact⟨hk.1,by omega⟩
 simp only[Utf8.decode,Nat.add_zero,sG,hn,if_false];split
 ·rename_i h1
  simp only[Bool.and_eq_true]at h1;have c1:=kc 1 (by simpa using h1.2)
  split
  ·rename_i h2
   refine⟨h2,(by show(1:Nat)<=2;decide),fun j hj=>?_⟩
   obtain rfl|rfl:j=0\/j=1:=by simp only at hj;omega
   ·exact⟨h,hp⟩
   ·exact c1
  ·exact⟨by decide,by decide,k0⟩
 ·split
  ·rename_i h1
   simp only[Bool.and_eq_true]at h1;have c1:=kc 1 (by simpa using h1.1.2)
   have c2:=kc 2 (by simpa using h1.2)
   split
   ·rename_i h2
    simp only[Bool.and_eq_true,decide_eq_true_eq]at h2;refine⟨by have:=h2.1;simp only;omega,(by show(1:Nat)<=3;decide),fun j hj=>?_⟩
    obtain rfl|rfl|rfl:j=0\/j=1\/j=2:=by simp only at hj;omega
    ·exact⟨h,hp⟩
    ·exact c1
    ·exact c2
   ·exact⟨by decide,by decide,k0⟩
  ·split
   ·rename_i h1
    simp only[Bool.and_eq_true]at h1;have c1:=kc 1 (by simpa using h1.1.1.2)
    have c2:=kc 2 (by simpa using h1.1.2)
    have c3:=kc 3 (by simpa using h1.2)
    split
    ·rename_i h2
     simp only[Bool.and_eq_true,decide_eq_true_eq]at h2;refine⟨by have:=h2.1;simp only;omega,(by show(1:Nat)<=4;decide),fun j hj=>?_⟩
     obtain rfl|rfl|rfl|rfl:j=0\/j=1\/j=2\/j=3:=by simp only at hj;omega
     ·exact⟨h,hp⟩
     ·exact c1
     ·exact c2
     ·exact c3
    ·exact⟨by decide,by decide,k0⟩
   ·exact⟨by decide,by decide,k0⟩
theorem eO{p:UInt8->Bool}:∀{l:qM} {n:Nat},(∀j,j<n->p (l.getD j 0)=true)->n<=l.length->(n=l.length\/p (l.getD n 0)=false)->qK p l=n
 |[],n,_,h2,_=>by simp only[List.length_nil,Nat.le_zero]at h2;subst h2;rfl
 |a::l,0,_,_,h3=>by
  have h4:p a=false:=by
   rcases h3 with h3|h3
   ·simp at h3
   ·simpa using h3
  simp[qK,h4]
 |a::l,n+1,h1,h2,h3=>by
  have h4:p a=true:=by simpa using h1 0 (Nat.succ_pos _)
  have ih:=eO (p:=p) (l:=l) (n:=n) (fun j hj=>by simpa using h1 (j+1) (by omega)) (by simpa using h2) (by simpa using h3)
  unfold qK at ih⊢;rw[List.takeWhile_cons,if_pos h4,List.length_cons,ih]
theorem pN(F:FuncId)(hF:∀args w,(callFunc F args).run Tryd.prog w=.ok (.enter F args) w)(p:UInt8->Bool)(hi:Bool)(s:ByteArray)(w:World)
  (HF:∀c:Nat,c<=2147483647->∀W,Calls Tryd.prog F #[.int .i32 c] W fun e w'=>e=.returned (.bool (if c<128 then p (UInt8.ofNat c)else hi))/\w'=W) (hp:∀b:UInt8,128<=b.toNat->p b=hi):
  Calls Tryd.prog 19 #[.string s,.func (.func F) #[] #[]] w fun e w'=>e=.returned (.int .i64 (qK p (bys s):Nat))/\∃x,w'=ext w x:=by
 have HFF:=q9 HF;have HP:=q9 hp;obtain⟨R,hR⟩:∃R,R=qK p (bys s):=⟨_,rfl⟩;rw[<-hR];have HR:=q9 hR;clear HF hp hR
 go_enter Tryd.func19,Tryd.ntmps19
 go_wp2
 go_loopg [9] s.size (fun gk _ wr=>∃pos:Nat,pos<=s.size/\wr=w.iter s pos/\Hid (∀j,j<pos->p ((bys s).getD j 0)=true)/\gk=s.size-pos)
 case atStart=>exact⟨0,qc _,rfl,q9 (fun j hj=>absurd hj (Nat.not_lt_zero j)),rfl⟩
 case round=>
  obtain⟨pos,vR,hw,HJ,hgk⟩:=hrel;have HGK:=q9 hgk;clear hgk;subst hw
  by_cases hlt:pos<s.size
  ·have hnx:∀ty,(Instr.next (.pointer (some ⟨w.heap.size,0,none⟩)) true ty).run Tryd.prog (w.iter s pos)=_:=fun ty=>run_next_any w s pos ty hlt
   have hle:=decode_le s pos;have HC:=q9 (HFF.out (Utf8.decode s pos).1 hle)
   by_cases hb:((bys s).getD pos 0).toNat<128
   ·have HD:Hid (Utf8.decode s pos=(((bys s).getD pos 0).toNat,1)):=q9 (kC hb)
    have HB:Hid (UInt8.ofNat ((bys s).getD pos 0).toNat=(bys s).getD pos 0):=q9 (by simp)
    rw[HD.out]at hnx HC;simp only[hb,if_true,HB.out]at hnx HC
    cases hpb:p ((bys s).getD pos 0)with
    |true=>
     rw[hpb]at HC
     have HN:Hid (∀j,j<pos+1->p ((bys s).getD j 0)=true):=q9 (fun j hj=>by
      rcases Nat.lt_succ_iff_lt_or_eq.1 hj with h|h
      ·exact HJ.out j h
      ·rw[h];exact hpb)
     clear HJ hpb HD HB;generalize ((bys s).getD pos 0).toNat=c at*
     go_wp2_with((with_reducible refine(HC.out _).mono ?_);rintro e w2 ⟨rfl,rfl⟩)
     go_roundg (s.size-(pos+1))
     case measure=>rw[HGK.out];omega
     case rel=>exact⟨pos+1,by omega,rfl,HN,rfl⟩
    |false=>
     rw[hpb]at HC;have HE:Hid (R=pos):=q9 (by rw[HR.out];exact eO HJ.out (by rw[qt];exact vR) (.inr hpb))
     clear HJ hpb HD HB;generalize ((bys s).getD pos 0).toNat=c at*
     go_wp2_with((with_reducible refine(HC.out _).mono ?_);rintro e w2 ⟨rfl,rfl⟩)
     go_ret;rw[HE.out]
     exact⟨rfl,qv (qo _ _)⟩
   ·obtain⟨h1,h2,h3⟩:=lH hlt (by omega)
    have hn1:¬(Utf8.decode s pos).1<128:=by omega
    simp only[hn1,if_false]at HC;have H3:=q9 h3;have HPB:=q9 (HP.out ((bys s).getD pos 0) (by omega))
    have hwd:pos+(Utf8.decode s pos).2<=s.size:=by
     have:=(h3 ((Utf8.decode s pos).2-1) (by omega)).1
     omega
    clear h3
    cases hi with
    |true=>
     have HN:Hid (∀j,j<pos+(Utf8.decode s pos).2->p ((bys s).getD j 0)=true):=q9 (fun j hj=>by
      by_cases h:j<pos
      ·exact HJ.out j h
      ·have:=(H3.out (j-pos) (by omega)).2
       rw[show pos+(j-pos)=j by omega]at this
       exact HP.out _ this)
     clear HJ H3 HPB hb;generalize (Utf8.decode s pos).1=c at*;generalize (Utf8.decode s pos).2=d at*
     go_wp2_with((with_reducible refine(HC.out _).mono ?_);rintro e w2 ⟨rfl,rfl⟩)
     go_roundg (s.size-(pos+d))
     case measure=>rw[HGK.out];omega
     case rel=>exact⟨pos+d,hwd,rfl,HN,rfl⟩
    |false=>
     have HE:Hid (R=pos):=q9 (by rw[HR.out];exact eO HJ.out (by rw[qt];exact vR) (.inr HPB.out))
     clear HJ H3 HPB hb;generalize (Utf8.decode s pos).1=c at*;generalize (Utf8.decode s pos).2=d at*
     go_wp2_with((with_reducible refine(HC.out _).mono ?_);rintro e w2 ⟨rfl,rfl⟩)
     go_ret;rw[HE.out]
     exact⟨rfl,qv (qo _ _)⟩
  ·obtain rfl:pos=s.size:=by omega
   have HE:Hid (R=s.size):=q9 (by rw[HR.out];exact eO HJ.out (by rw[qt];exact qa _) (.inl (by rw[qt])))
   have hnx:∀ty,(Instr.next (.pointer (some ⟨w.heap.size,0,none⟩)) true ty).run Tryd.prog (w.iter s s.size)=_:=fun ty=>run_next_end w s s.size ty hlt
   clear HJ;go_wp2;go_ret;rw[HE.out]
   exact⟨rfl,qv (qo _ _)⟩
theorem lI(c:Nat)(w:World):Calls Tryd.prog 18 #[.int .i32 c] w fun e w'=>e=.returned (.bool (decide (97<=c)&&decide (c<=122)))/\w'=w:=by
 by_cases h1:97<=c
 ·by_cases h2:c<=122
  ·have HE:Hid ((decide (97<=c)&&decide (c<=122))=true):=q9 (by simp[h1,h2])
   rw[HE.out]
   go_enter Tryd.func18,Tryd.ntmps18
   go_wp2;go_ret
   first|exact⟨rfl,rfl⟩|(refine⟨?_,rfl⟩;simp;omega)
  ·have HE:Hid ((decide (97<=c)&&decide (c<=122))=false):=q9 (by simp[h2])
   rw[HE.out]
   go_enter Tryd.func18,Tryd.ntmps18
   go_wp2;go_ret
   first|exact⟨rfl,rfl⟩|(refine⟨?_,rfl⟩;simp;omega)
 ·have HE:Hid ((decide (97<=c)&&decide (c<=122))=false):=q9 (by simp[h1])
  rw[HE.out]
  go_enter Tryd.func18,Tryd.ntmps18
  go_wp2;go_ret
  first|exact⟨rfl,rfl⟩|(refine⟨?_,rfl⟩;simp;omega)
def oQ(c:Nat):Bool:=(decide (97<=c)&&decide (c<=122))||((decide (48<=c)&&decide (c<=57))||decide (c=95))
theorem sH(c:Nat)(w:World):Calls Tryd.prog 20 #[.int .i32 c] w fun e w'=>e=.returned (.bool (oQ c))/\w'=w:=by
 have HL:=q9 (lI c);have HE:Hid (oQ c=((decide (97<=c)&&decide (c<=122))||((decide (48<=c)&&decide (c<=57))||decide (c=95)))):=q9 rfl;rw[HE.out]
 cases hb:(decide (97<=c)&&decide (c<=122))
 ·rw[hb]at HL
  rw[Bool.false_or]
  by_cases h1:48<=c/\c<=57
  ·obtain⟨a1,a2⟩:=h1
   rw[show((decide (48<=c)&&decide (c<=57))||decide (c=95))=true by simp[a1,a2]]
   clear hb
   go_enter Tryd.func20,Tryd.ntmps20
   go_wp2_with((with_reducible refine(HL.out _).mono ?_);rintro e w2 ⟨rfl,rfl⟩)
   go_ret
   first|exact⟨rfl,rfl⟩|(refine⟨?_,rfl⟩;simp;omega)
  ·by_cases h2:c=95
   ·have h2b:((c:Int)==95)=true:=by rw[h2];rfl
    have h3:48<=c:=by omega
    have h4:¬c<=57:=by omega
    rw[show((decide (48<=c)&&decide (c<=57))||decide (c=95))=true by simp[h2]]
    clear hb h1 h2
    go_enter Tryd.func20,Tryd.ntmps20
    go_wp2_with((with_reducible refine(HL.out _).mono ?_);rintro e w2 ⟨rfl,rfl⟩)
    go_ret
    first|exact⟨rfl,rfl⟩|(refine⟨?_,rfl⟩;simp;omega)
   ·have h2b:((c:Int)==95)=false:=by simp;omega
    rw[show((decide (48<=c)&&decide (c<=57))||decide (c=95))=false by simp[h2];omega]
    by_cases h3:48<=c
    ·have h4:¬c<=57:=fun h=>h1 ⟨h3,h⟩
     clear hb h1 h2
     go_enter Tryd.func20,Tryd.ntmps20
     go_wp2_with((with_reducible refine(HL.out _).mono ?_);rintro e w2 ⟨rfl,rfl⟩)
     go_ret
     first|exact⟨rfl,rfl⟩|(refine⟨?_,rfl⟩;simp;omega)
    ·clear hb h1 h2
     go_enter Tryd.func20,Tryd.ntmps20
     go_wp2_with((with_reducible refine(HL.out _).mono ?_);rintro e w2 ⟨rfl,rfl⟩)
     go_ret
     first|exact⟨rfl,rfl⟩|(refine⟨?_,rfl⟩;simp;omega)
 ·rw[hb]at HL
  rw[Bool.true_or];clear hb
  go_enter Tryd.func20,Tryd.ntmps20
  go_wp2_with((with_reducible refine(HL.out _).mono ?_);rintro e w2 ⟨rfl,rfl⟩)
  go_ret
  first|exact⟨rfl,rfl⟩|(refine⟨?_,rfl⟩;simp;omega)
theorem pO(c:Nat)(w:World):Calls Tryd.prog 24 #[.int .i32 c] w fun e w'=>e=.returned (.bool (decide (c≠10)))/\w'=w:=by
 by_cases h:c=10
 ·subst h
  go_enter Tryd.func24,Tryd.ntmps24
  go_wp2;go_ret
  first|exact⟨rfl,rfl⟩|(refine⟨?_,rfl⟩;simp;omega)
 ·have hb:((c:Int) != 10)=true:=by simp;omega
  rw[decide_eq_true h];clear h
  go_enter Tryd.func24,Tryd.ntmps24
  go_wp2;go_ret
  first|exact⟨rfl,rfl⟩|(refine⟨?_,rfl⟩;simp;omega)
theorem oR(c:Nat)(w:World):Calls Tryd.prog 36 #[.int .i32 c] w fun e w'=>e=.returned (.bool (decide (c=32\/c=9\/c=13)))/\w'=w:=by
 by_cases h1:c=32
 ·subst h1
  go_enter Tryd.func36,Tryd.ntmps36
  go_wp2;go_ret
  first|exact⟨rfl,rfl⟩|(refine⟨?_,rfl⟩;simp;omega)
 ·by_cases h2:c=9
  ·subst h2
   clear h1
   go_enter Tryd.func36,Tryd.ntmps36
   go_wp2;go_ret
   first|exact⟨rfl,rfl⟩|(refine⟨?_,rfl⟩;simp;omega)
  ·by_cases h3:c=13
   ·subst h3
    clear h1 h2
    go_enter Tryd.func36,Tryd.ntmps36
    go_wp2;go_ret
    first|exact⟨rfl,rfl⟩|(refine⟨?_,rfl⟩;simp;omega)
   ·have b1:((c:Int)==32)=false:=by simp;omega
    have b2:((c:Int)==9)=false:=by simp;omega
    have b3:((c:Int)==13)=false:=by simp;omega
    rw[decide_eq_false (by omega)]
    clear h1 h2 h3
    go_enter Tryd.func36,Tryd.ntmps36
    go_wp2;go_ret
    first|exact⟨rfl,rfl⟩|(refine⟨?_,rfl⟩;simp;omega)
theorem pP:∀b:Fin 256,(bE (UInt8.ofFin b)=oQ b.val/\dN (UInt8.ofFin b)=decide (b.val≠10)/\jm (UInt8.ofFin b)=decide (b.val=32\/b.val=9\/b.val=13))/\(128<=b.val->bE (UInt8.ofFin b)=false/\dN (UInt8.ofFin b)=true/\jm (UInt8.ofFin b)=false):=by decide+kernel
theorem cD(b:UInt8):(bE b=oQ b.toNat/\dN b=decide (b.toNat≠10)/\jm b=decide (b.toNat=32\/b.toNat=9\/b.toNat=13))/\(128<=b.toNat->bE b=false/\dN b=true/\jm b=false):=pP b.toFin
theorem eP{c:Nat}(h:c<128):(UInt8.ofNat c).toNat=c:=by simp;omega
theorem oS(s:ByteArray)(w:World):Calls Tryd.prog 19 #[.string s,.func (.func 20) #[] #[]] w fun e w'=>e=.returned (.int .i64 (qK bE (bys s):Nat))/\∃x,w'=ext w x:=
 pN 20 (enters_of (P:=Tryd.prog) Tryd.func20 (by kernel_rfl) rfl) bE false s w (fun c _ W=>by
  have:=sH c W
  by_cases h:c<128
  ·rw[if_pos h,(cD _).1.1,eP h];exact this
  ·rw[if_neg h]
   rwa [show oQ c=false by unfold oQ;simp;omega]at this) (fun b hb=>((cD b).2 hb).1)
theorem lJ(s:ByteArray)(w:World):Calls Tryd.prog 19 #[.string s,.func (.func 36) #[] #[]] w fun e w'=>e=.returned (.int .i64 (qK jm (bys s):Nat))/\∃x,w'=ext w x:=
 pN 36 (enters_of (P:=Tryd.prog) Tryd.func36 (by kernel_rfl) rfl) jm false s w (fun c _ W=>by
  have:=oR c W
  by_cases h:c<128
  ·rw[if_pos h,(cD _).1.2.2,eP h];exact this
  ·rw[if_neg h]
   rwa [decide_eq_false (by omega)]at this) (fun b hb=>((cD b).2 hb).2.2)
theorem sI(s:ByteArray)(w:World):Calls Tryd.prog 19 #[.string s,.func (.func 24) #[] #[]] w fun e w'=>e=.returned (.int .i64 (qK dN (bys s):Nat))/\∃x,w'=ext w x:=
 pN 24 (enters_of (P:=Tryd.prog) Tryd.func24 (by kernel_rfl) rfl) dN true s w (fun c _ W=>by
  have:=pO c W
  by_cases h:c<128
  ·rw[if_pos h,(cD _).1.2.1,eP h];exact this
  ·rw[if_neg h]
   rwa [decide_eq_true (by omega)]at this) (fun b hb=>((cD b).2 hb).2.1)
end Go.Cm
namespace Go.Cm
theorem jE(p:UInt8->Bool)(s:qM):qK p s<=s.length:=(List.takeWhile_prefix p).length_le
theorem lK{p:UInt8->Bool}{c:UInt8}:∀{s:qM},c∈s.takeWhile p->p c=true
 |[],h=>by simp at h
 |d::s,h=>by
  by_cases hd:p d=true
  ·rw[List.takeWhile_cons_of_pos hd]at h
   rcases List.mem_cons.1 h with rfl|h
   ·exact hd
   ·exact lK h
  ·rw[List.takeWhile_cons_of_neg hd]at h;simp at h
structure nN(x:Rul):Prop where
 nm:a6 x.1=true
 ex:∀a,bL x.2 a=[]
 nl:(10:UInt8)∉x.2
 hd:∀c,x.2.head?=some c->jm c=false
 tr:jD x.2=x.2
structure jK(l:List Rul):Prop where
 all:∀x∈l,nN x
 nd:(l.map (·.1)).Nodup
 len:l.length<=32
theorem jK.nil:jK []:=⟨by simp,by simp,by simp⟩
theorem jK.snoc{l:List Rul}{x:Rul}(h:jK l)(hx:nN x)(hn:x.1∉l.map (·.1))(h32:l.length≠32):jK (l++[x]):=by
 refine⟨fun y hy=>?_,?_,?_⟩
 ·rcases List.mem_append.1 hy with hy|hy
  ·exact h.all y hy
  ·rw[List.mem_singleton.1 hy];exact hx
 ·rw[List.map_append,List.map_cons,List.map_nil,List.nodup_append]
  exact⟨h.nd,by simp,fun a ha b hb=>by rw[List.mem_singleton.1 hb];intro e;exact hn (e▸ha)⟩
 ·have:=h.len
  rw[qg,List.length_singleton];omega
end Go.Cm
namespace Go.Cm
open Go.RowKit Go.Proofs
structure qO(w:World)(g:Nat)(s:ByteArray)(z:PS):Prop where
 own:Own w g 59 (.slice (some ⟨g,0,none⟩) 4 4) [.string s,.int .i64 z.p,.int .i64 z.e,.int .i64 z.b]
section
variable {w : World} {g : Nat} {s : ByteArray} {z : PS}
theorem qO.up{w':World}(h:qO w g s z)(hb:Below w.heap.size w w'):qO w' g s z:=⟨h.own.up hb⟩
theorem qO.lt(h:qO w g s z):g<w.heap.size:=(h.own.lt g rfl).2
theorem qO.c0(h:qO w g s z):w.cell? ⟨g,0,none⟩=some (.string s):=h.own.cell (by simp)
theorem qO.c1(h:qO w g s z):w.cell? ⟨g,1,none⟩=some (.int .i64 z.p):=h.own.cell (by simp)
theorem qO.c2(h:qO w g s z):w.cell? ⟨g,2,none⟩=some (.int .i64 z.e):=h.own.cell (by simp)
theorem qO.c3(h:qO w g s z):w.cell? ⟨g,3,none⟩=some (.int .i64 z.b):=h.own.cell (by simp)
theorem qO.free(h:qO w g s z)(c:Nat):w.frozen? ⟨g,c,none⟩=false:=h.own.free c
theorem qO.set1(h:qO w g s z)(r:Nat):qO (w.setCell ⟨g,1,none⟩ (.int .i64 r)) g s ⟨r,z.e,z.b⟩/\w.grownBy (w.setCell ⟨g,1,none⟩ (.int .i64 r)) (some g):=⟨⟨(h.own.store 1 _).1⟩,(h.own.store 1 _).2⟩
end
def nxV(o:Option UInt8):Value:=.tuple #[.int .u8 ((o.getD 0).toNat:Nat),.bool o.isSome]
theorem nxP{w:World}{g:Nat}{s:ByteArray}{z:PS}(h:qO w g s z):
  Calls Tryd.prog 30 #[.pointer (some ⟨g,0,none⟩)] w fun e w'=>e=.returned (nxV (nxR (bys s) z))/\∃x,w'=ext w x:=by
 have HB:=q9 h;have c0:=h.c0;have c1:=h.c1;have c2:=h.c2;have hg:=h.lt;have hix:=@jc Tryd.prog 9 (by kernel_rfl) s z.p
 have HX:=q9 hix;have HN:Hid (nxR (bys s) z=if z.e=0/\z.p<s.size then some ((bys s).getD z.p 0)else none):=q9 (by unfold nxR;rw[qt])
 clear h hix;obtain⟨R,hR⟩:∃R,R=nxR (bys s) z:=⟨_,rfl⟩;rw[<-hR]at HN⊢;clear hR
 by_cases he:z.e=0
 ·have he':((z.e:Int) != 0)=false:=by simp[he]
  by_cases hp:z.p<s.size
  ·have hix:=fun W=>HX.out hp W
   have hp':¬(z.p:Int)≥(s.size:Int):=by omega
   have HR:Hid (R=some ((bys s).getD z.p 0)):=q9 (by rw[HN.out,if_pos ⟨he,hp⟩])
   clear HN HX;generalize (bys s).getD z.p 0=c at*
   go_enter Tryd.func30,Tryd.ntmps30
   go_wp2
   go_quiet (fail)
   go_wp2
   go_quiet (fail)
   go_wp2
   go_ret2
   exact⟨by rw[HR.out];rfl,(qv (by repeat(first|exact qi _ _|assumption|refine qF ?_ _|refine qj ?_|refine qL ?_ _|refine qx ?_ _)))⟩
  ·have hp':(z.p:Int)≥(s.size:Int):=by omega
   have HR:Hid (R=none):=q9 (by rw[HN.out,if_neg (fun h=>hp h.2)])
   clear HN HX
   go_enter Tryd.func30,Tryd.ntmps30
   go_wp2
   go_quiet (fail)
   go_wp2
   go_ret2
   exact⟨by rw[HR.out];rfl,(qv (by repeat(first|exact qi _ _|assumption|refine qF ?_ _|refine qj ?_|refine qL ?_ _|refine qx ?_ _)))⟩
 ·have he':((z.e:Int) != 0)=true:=by
   have:z.e≠0:=he
   simpa using this
  have HR:Hid (R=none):=q9 (by rw[HN.out,if_neg (fun h=>he h.1)])
  clear HN HX
  go_enter Tryd.func30,Tryd.ntmps30
  go_wp2
  go_quiet (fail)
  go_wp2
  go_ret2
  exact⟨by rw[HR.out];rfl,(qv (by repeat(first|exact qi _ _|assumption|refine qF ?_ _|refine qj ?_|refine qL ?_ _|refine qx ?_ _)))⟩
theorem qO.set23{w:World}{g:Nat}{s:ByteArray}{z:PS}(h:qO w g s z)(e b:Nat):qO ((w.setCell ⟨g,2,none⟩ (.int .i64 e)).setCell ⟨g,3,none⟩ (.int .i64 b)) g s ⟨z.p,e,b⟩/\w.grownBy ((w.setCell ⟨g,2,none⟩ (.int .i64 e)).setCell ⟨g,3,none⟩ (.int .i64 b)) (some g):=by
 have h1:=h.own.store 2 (.int .i64 e);have h2:=h1.1.store 3 (.int .i64 b)
 exact⟨⟨h2.1⟩,qr h1.2 h2.2⟩
theorem bY{w:World}{g:Nat}{s:ByteArray}{z:PS}(h:qO w g s z)(e a:Nat):
  Calls Tryd.prog 31 #[.pointer (some ⟨g,0,none⟩),.int .i64 e,.int .i64 a] w fun en w'=>en=.returned (.tuple #[])/\qO w' g s (qC e a z)/\w.grownBy w' (some g):=by
 have HB:=q9 h;have c2:=h.c2;have c3:=h.c3;have hg:=h.lt;have f2:=h.free 2;have f3:=h.free 3;have HS:=q9 (h.set23 e a);clear h
 by_cases he:z.e=0
 ·have he':((z.e:Int)==0)=true:=by simp[he]
  have HF:Hid (qC e a z=⟨z.p,e,a⟩):=q9 (by unfold qC;rw[if_pos he])
  go_enter Tryd.func31,Tryd.ntmps31
  go_wp2
  go_end0
  rw[HF.out]
  exact⟨rfl,HS.out.1,HS.out.2⟩
 ·have he':((z.e:Int)==0)=false:=by
   have:z.e≠0:=he
   simpa using this
  have HF:Hid (qC e a z=z):=q9 (by unfold qC;rw[if_neg he])
  go_enter Tryd.func31,Tryd.ntmps31
  go_wp2
  go_end0
  rw[HF.out]
  exact⟨rfl,HB.out,jo _ _⟩
theorem gY{w:World}{g:Nat}{s:ByteArray}{z:PS}(h:qO w g s z)(hs:s.size<=1000000)(c:UInt8):
  Calls Tryd.prog 43 #[.pointer (some ⟨g,0,none⟩),.int .u8 (c.toNat:Nat)] w fun en w'=>en=.returned (.bool (qz (bys s) c z).1)/\qO w' g s (qz (bys s) c z).2/\w.grownBy w' (some g):=by
 have HB:=q9 h;have HN:=q9 (nxP h);have hg:=h.lt;clear h
 cases hn:nxR (bys s) z with
 |none=>
  have HT:Hid (qz (bys s) c z=(false,z)):=q9 (by unfold qz;rw[hn];rfl)
  rw[hn]at HN;clear hn
  go_enter Tryd.func43,Tryd.ntmps43
  go_wp2_with(go_at_call 30;refine HN.out.mono ?_;rintro e w1 ⟨rfl,hx⟩;(have HB1:=q9 (HB.out.up (qn hx)));(have HG1:=q9 (qs (qn hx) (some g)));clear hx;unfold nxV)
  go_ret;rw[HT.out]
  exact⟨rfl,HB1.out,HG1.out⟩
 |some d=>
  obtain⟨hz0,hzp,-⟩:=qS hn;rw[qt]at hzp;rw[hn]at HN
  by_cases hd:d=c
  ·subst hd
   have HT:Hid (qz (bys s) d z=(true,qH z)):=q9 (by unfold qz;rw[if_pos hn])
   clear hn
   go_enter Tryd.func43,Tryd.ntmps43
   go_wp2_with(go_at_call 30;refine HN.out.mono ?_;rintro e w1 ⟨rfl,hx⟩;(have HB1:=q9 (HB.out.up (qn hx)));(have HG1:=q9 (qs (qn hx) (some g)));(have c1:=HB1.out.c1);(have f1:=HB1.out.free 1);(have HS:=q9 (HB1.out.set1 (z.p+1)));clear hx;unfold nxV)
   go_ret;rw[HT.out]
   exact⟨rfl,HS.out.1,qr HG1.out HS.out.2⟩
  ·have HT:Hid (qz (bys s) c z=(false,z)):=q9 (by unfold qz;rw[hn,if_neg (by simpa using hd)])
   have hne:((c.toNat:Int) != (d.toNat:Int))=true:=by
    rw[bne,gM (fun e=>hd e.symm)];rfl
   have hcd:¬c=d:=fun e=>hd e.symm
   have hcn:¬c.toNat=d.toNat:=fun e=>hcd (UInt8.toNat_inj.1 e)
   clear hn
   go_enter Tryd.func43,Tryd.ntmps43
   go_wp2_with(go_at_call 30;refine HN.out.mono ?_;rintro e w1 ⟨rfl,hx⟩;(have HB1:=q9 (HB.out.up (qn hx)));(have HG1:=q9 (qs (qn hx) (some g)));clear hx;unfold nxV)
   go_ret;rw[HT.out]
   exact⟨rfl,HB1.out,HG1.out⟩
theorem gZ(x i:Nat):wdR x i<18446744073709551616:=Nat.mod_lt _ (by decide)
theorem hH(x i j:Nat):(wdR x i).testBit j=(decide (j<64)&&x.testBit (64*i+j)):=by
 unfold wdR;rw[Nat.testBit_mod_two_pow,Nat.testBit_div_two_pow,Nat.add_comm]
theorem pU(x y i:Nat):wdR (x|||y) i=wdR x i|||wdR y i:=by
 refine Nat.eq_of_testBit_eq fun j=>?_
 rw[Nat.testBit_or,hH,hH,hH,Nat.testBit_or]
 cases decide (j<64)<;>simp
theorem oU(c i:Nat):wdR (2^c) i=if c/64=i then 2^(c%64)else 0:=by
 refine Nat.eq_of_testBit_eq fun j=>?_
 rw[hH,Nat.testBit_two_pow];split
 ·rename_i h
  rw[Nat.testBit_two_pow]
  by_cases hj:j<64
  ·rw[decide_eq_true hj,Bool.true_and]
   by_cases h2:c=64*i+j
   ·rw[decide_eq_true h2,decide_eq_true (by omega)]
   ·rw[decide_eq_false h2,decide_eq_false (by omega)]
  ·rw[decide_eq_false hj,Bool.false_and,decide_eq_false (by omega)]
 ·rename_i h
  rw[Nat.zero_testBit]
  by_cases hj:j<64
  ·rw[decide_eq_true hj,Bool.true_and,decide_eq_false (by omega)]
  ·rw[decide_eq_false hj,Bool.false_and]
theorem sJ{x:Nat}(hx:x<2^256){i:Nat}(hi:i<4):wdR (cB x) i=18446744073709551615-wdR x i:=by
 refine Nat.eq_of_testBit_eq fun j=>?_
 have hw:=gZ x i;rw[hH,show 18446744073709551615-wdR x i=2^64-(wdR x i+1) by omega,Nat.testBit_two_pow_sub_succ hw,hH]
 unfold cB;rw[show 2^256-1-x=2^256-(x+1) by omega,Nat.testBit_two_pow_sub_succ hx]
 by_cases hj:j<64
 ·rw[decide_eq_true hj,decide_eq_true (show 64*i+j<256 by omega)];simp
 ·rw[decide_eq_false hj];simp
theorem oV{x y:Nat}(hx:x<2^256)(hy:y<2^256)(h:∀i,i<4->wdR x i=wdR y i):x=y:=by
 refine Nat.eq_of_testBit_eq fun k=>?_
 by_cases hk:k<256
 ·have:=congrArg (fun z=>z.testBit (k%64)) (h (k/64) (by omega))
  simp only[hH,decide_eq_true (Nat.mod_lt k (show 64>0 by decide)),Bool.true_and]at this
  rwa [show 64*(k/64)+k%64=k by omega]at this
 ·have h1:2^256<=2^k:=qe (by decide) (by omega)
  rw[Nat.testBit_lt_two_pow (qd hx h1),Nat.testBit_lt_two_pow (qd hy h1)]
theorem d9(i:Nat):wdR 0 i=0:=by simp[wdR]
theorem jA{x y:Nat}(hx:x<2^256)(hy:y<2^256):x|||y<2^256:=Nat.or_lt_two_pow hx hy
theorem dA(x:Nat):cB x<2^256:=by
 unfold cB;have:0<2^256:=Nat.two_pow_pos 256;omega
def lT(a b k:Nat):Nat:=(List.range k).foldl (fun x c=>if a<=c/\c<=b then x|||2^c else x) 0
theorem fP(a b k:Nat):lT a b (k+1)=if a<=k/\k<=b then lT a b k|||2^k else lT a b k:=by
 unfold lT;rw[List.range_succ,List.foldl_append];rfl
theorem lU(a b:Nat):∀k i,(lT a b k).testBit i=(decide (i<k)&&decide (a<=i/\i<=b))
 |0,i=>by simp[lT]
 |k+1,i=>by
  rw[fP];have ih:=lU a b k i
  by_cases h:a<=k/\k<=b
  ·rw[if_pos h,Nat.testBit_or,ih,Nat.testBit_two_pow]
   by_cases hik:i=k
   ·subst hik;simp[h]
   ·by_cases h1:i<k
    ·rw[decide_eq_true h1,decide_eq_true (show i<k+1 by omega),decide_eq_false (show¬k=i by omega)];simp
    ·rw[decide_eq_false h1,decide_eq_false (show¬i<k+1 by omega),decide_eq_false (show¬k=i by omega)];simp
  ·rw[if_neg h,ih]
   by_cases hik:i=k
   ·subst hik;rw[decide_eq_false h];simp
   ·by_cases h1:i<k
    ·rw[decide_eq_true h1,decide_eq_true (show i<k+1 by omega)]
    ·rw[decide_eq_false h1,decide_eq_false (show¬i<k+1 by omega)]
theorem oW(a b i:Nat):(bB a b).testBit i=(decide (i<256)&&decide (a<=i/\i<=b)):=lU a b 256 i
theorem fQ(a b:Nat):bB a b<2^256:=by
 refine Nat.lt_pow_two_of_testBit _ fun i hi=>?_
 rw[oW,decide_eq_false (by omega)];rfl
theorem pV(c:UInt8):jH c=2^c.toNat:=by
 refine Nat.eq_of_testBit_eq fun i=>?_
 have:=c.toNat_lt;unfold jH;rw[oW,Nat.testBit_two_pow]
 by_cases h:c.toNat=i
 ·subst h;simp;omega
 ·rw[decide_eq_false (show¬(c.toNat<=i/\i<=c.toNat) by omega),decide_eq_false h];simp
theorem fR(c:UInt8):jH c<2^256:=fQ _ _
def wsV(x:Nat):List Value:=[.int .u64 (wdR x 0:Nat),.int .u64 (wdR x 1:Nat),.int .u64 (wdR x 2:Nat),.int .u64 (wdR x 3:Nat)]
def qW(x:Nat):Value:=.agg (wsV x).toArray
theorem eQ(x:Nat){i:Nat}(hi:i<4):(wsV x)[i]? =some (.int .u64 (wdR x i:Nat)):=by
 obtain rfl|rfl|rfl|rfl:i=0\/i=1\/i=2\/i=3:=by omega
 all_goals rfl
theorem dB(x:Nat):(wsV x).length=4:=rfl
theorem pW{x y i:Nat}(hi:i<4)(h:∀j,j<4->j≠i->wdR y j=wdR x j):(wsV x).set i (.int .u64 (wdR y i:Nat))=wsV y:=by
 refine List.ext_getElem? fun j=>?_
 rw[List.getElem?_set]
 by_cases hj:j<4
 ·rw[eQ y hj]
  split
  ·rename_i e;subst e;rw[if_pos (by rw[dB];exact hi)]
  ·rename_i e;rw[eQ x hj,h j hj (fun e2=>e e2.symm)]
 ·rw[if_neg (by omega),List.getElem?_eq_none (by rw[dB];omega),List.getElem?_eq_none (by rw[dB];omega)]
structure jp(w:World)(g x:Nat):Prop where
 own:Own w g 72 (.slice (some ⟨g,0,none⟩) 4 4) (wsV x)
section
variable {w w' : World} {g x : Nat}
theorem jp.up(h:jp w g x)(hb:Below w.heap.size w w'):jp w' g x:=⟨h.own.up hb⟩
theorem jp.keep{row:Option Nat}(h:jp w g x)(hg:w.grownBy w' row)(hne:row≠some g):jp w' g x:=⟨h.own.keep hg (.inr (fun e=>hne e.symm))⟩
theorem jp.lt(h:jp w g x):g<w.heap.size:=(h.own.lt g rfl).2
theorem jp.cell(h:jp w g x){c:Nat}(hc:c<4):w.cell? ⟨g,c,none⟩=some (.int .u64 (wdR x c:Nat)):=by
 rw[h.own.cell (by rw[dB];exact hc),List.getD_eq_getElem?_getD,eQ x hc];rfl
theorem jp.free(h:jp w g x)(c:Nat):w.frozen? ⟨g,c,none⟩=false:=h.own.free c
theorem jp.set(h:jp w g x){y i:Nat}(hi:i<4)(hy:∀j,j<4->j≠i->wdR y j=wdR x j):jp (w.setCell ⟨g,i,none⟩ (.int .u64 (wdR y i:Nat))) g y/\w.grownBy (w.setCell ⟨g,i,none⟩ (.int .u64 (wdR y i:Nat))) (some g):=by
 obtain⟨h1,h2⟩:=h.own.store i (.int .u64 (wdR y i:Nat));rw[pW hi hy]at h1
 exact⟨⟨h1⟩,h2⟩
theorem jp.load(h:jp w g x):(loadVar 72 ⟨g,0,none⟩).run Tryd.prog w=.ok (qW x) w:=aL h.own _ Tryd.underlying72 rfl (by kernel_rfl)
theorem jB(w:World)(x:Nat):jp (w.alloc (.cells (wsV x).toArray 72)) w.heap.size x:=by
 have h:=jj w w.heap.size (wsV x).toArray 72 (by simp[wsV]) (qa _)
 simp only[List.size_toArray,dB]at h
 exact⟨h⟩
end
def z4:Array Value:=(wsV 0).toArray
theorem aD(W:World):(zeroValue 72).run Tryd.prog W=.ok (.agg z4) W:=by kernel_rfl
theorem qV(w:World)(A:Array Value)(hA:A=z4):jp (w.alloc (.cells A 72)) w.heap.size 0:=by
 subst hA;exact jB w 0
theorem qq{ops:Array Oper}{rest:List Oper}{o:Oper}{a:Act}{w:World}{Q:Exit->Act->World->Prop}(hgd:o.guard=none)(x y:Operand)(ho:o.op=.store 72 x y)
  (g:Nat) (hx:a.eval x=.pointer (some ⟨g,0,none⟩)) (s t:Nat) (hy:a.eval y=qW t) (hown:jp w g s)
  (h:∀w',jp w' g t->w.grownBy w' (some g)->wpList Tryd.prog ops Q rest (a.put o.dst undef) w'):wpList Tryd.prog ops Q (o::rest) a w:=by
 refine j5 hgd 72 x y ho g 72 g 4 4 hx (wsV t).toArray hy (by kernel_rfl) (wsV s) hown.own (by simp[wsV]) (fun u hu=>?_) fun w' hw hg=>h w' ⟨?_⟩ hg
 ·simp only[wsV,List.mem_cons,List.not_mem_nil,or_false]at hu
  rcases hu with rfl|rfl|rfl|rfl<;>rfl
 ·exact hw
theorem qw{ops:Array Oper}{rest:List Oper}{o:Oper}{a:Act}{w:World}{Q:Exit->Act->World->Prop}(hgd:o.guard=none)(x:Operand)(ho:o.op=.load 72 x)
  (g:Nat) (hx:a.eval x=.pointer (some ⟨g,0,none⟩)) (s:Nat) (hown:jp w g s)
  (h:wpList Tryd.prog ops Q rest (a.put o.dst (qW s)) w):wpList Tryd.prog ops Q (o::rest) a w:=by
 obtain⟨A,hg,hs,hA⟩:=hown.own.whole;have hA2:A=(wsV s).toArray:=by rw[<-hA]
 refine eM hgd 72 4 x ho g hx A hs hg _ Tryd.underlying72 rfl (by kernel_rfl) ?_
 rw[hA2];exact h
theorem kE{x k:Nat}:∀j,j≠k/64->wdR (x|||2^k) j=wdR x j:=fun j hj=>by
 rw[pU,oU,if_neg (fun e=>hj e.symm),Nat.or_zero]
theorem lV(x k:Nat):wdR (x|||2^k) (k/64)=wdR x (k/64)|||2^(k%64):=by
 rw[pU,oU,if_pos rfl]
def qZ(x:Nat)(w:World)(e:Ending)(w':World):Prop:=e=.returned (qW x)/\∃y,w'=ext w y
theorem sK(x k:Nat):bits .or .u64 ((wdR x (k/64):Nat):Int) (IntKind.u64.wrap ((2:Int)^(k%64)))=((wdR (x|||2^k) (k/64):Nat):Int):=by
 have h:2^(k%64)<2^64:=Nat.pow_lt_pow_right (by decide) (Nat.mod_lt _ (by decide))
 have e:(2:Int)^(k%64)=((2^(k%64):Nat):Int):=by simp
 have hs:=lV x k;have hw:=gZ x (k/64);rw[e,hs];clear e hs;generalize 2^(k%64)=m at*;rw[IntKind.wrap_u64,Int.emod_eq_of_lt (by omega) (by omega),bits_or_u64_nat _ _ hw (by omega)]
theorem fS(a b:UInt8)(w:World):Calls Tryd.prog 80 #[.int .u8 (a.toNat:Nat),.int .u8 (b.toNat:Nat)] w (qZ (bB a.toNat b.toNat) w):=by
 have hz:=aD;obtain⟨Z,hZ⟩:∃Z,Z=z4:=⟨_,rfl⟩;rw[<-hZ]at hz;have HA0:Hid (jp ((w.alloc (.cells Z 72)).alloc (.cells Z 72)) w.heap.size 0):=q9 ((qV w Z hZ).up (qo _ _))
 have HB0:Hid (jp ((w.alloc (.cells Z 72)).alloc (.cells Z 72)) (w.heap.size+1) 0):=q9 (by
  have:=qV (w.alloc (.cells Z 72)) Z hZ
  rwa [show(w.alloc (.cells Z 72)).heap.size=w.heap.size+1 by simp]at this)
 have HBL:Hid (Below w.heap.size w ((w.alloc (.cells Z 72)).alloc (.cells Z 72))):=q9 (by repeat(first|exact qi _ _|assumption|refine qF ?_ _|refine qj ?_|refine qL ?_ _|refine qx ?_ _))
 have hE:bB a.toNat b.toNat=lT a.toNat b.toNat 256:=rfl;rw[hE];clear hE;have ha:=a.toNat_lt;have hb:=b.toNat_lt;generalize a.toNat=a at*;generalize b.toNat=b at*;clear hZ
 go_enter Tryd.func80,Tryd.ntmps80
 go_wp2
 go_loopg [7] 257 (fun gk i wr=>∃k:Nat,k<=256/\i=.int .i64 k/\jp wr (w.heap.size+1) (lT a b k)/\jp wr w.heap.size 0/\Below w.heap.size w wr/\gk=257-k)
 case atStart=>exact⟨0,by omega,rfl,HB0.out,HA0.out,HBL.out,rfl⟩
 case round=>
  clear HA0 HB0 HBL;obtain⟨k,hk,rfl,hB,hA,vH,rfl⟩:=hrel;have HB:=q9 hB;have HA:=q9 hA;have HBL:=q9 vH;have hsz:=vH.size;have hlB:=hB.lt;clear hA vH
  by_cases hlt:k<256
  ·have HK:=q9 (fP a b k)
   have hki:k/64<4:=by omega
   have hcell:=hB.cell hki;have hfr:=hB.free (k/64);have HS:=q9 (hB.set (y:=lT a b k|||2^k) hki (fun j _=>kE j))
   have HW:=q9 (sK (lT a b k) k);clear hB
   by_cases hin:a<=k/\k<=b
   ·obtain⟨h1,h2⟩:=hin
    rw[if_pos ⟨h1,h2⟩]at HK;go_wp2
    go_roundg (256-k)
    case rel=>exact⟨k+1,by omega,by go_num,by rw[HK.out,HW.out];exact HS.out.1,by rw[HW.out];exact HA.out.keep HS.out.2 (by simp),by rw[HW.out];exact HBL.out.grown HS.out.2 HBL.out.size (fun k hk=>by cases hk;exact Nat.le_succ _),by omega⟩
    case measure=>omega
   ·rw[if_neg hin]at HK
    by_cases h1:a<=k
    ·have h2:¬k<=b:=fun h=>hin ⟨h1,h⟩
     clear hin;go_wp2
     go_roundg (256-k)
     case rel=>exact⟨k+1,by omega,by go_num,by rw[HK.out];exact HB.out,HA.out,HBL.out,by omega⟩
     case measure=>omega
    ·clear hin
     go_wp2
     go_roundg (256-k)
     case rel=>exact⟨k+1,by omega,by go_num,by rw[HK.out];exact HB.out,HA.out,HBL.out,by omega⟩
     case measure=>omega
  ·obtain rfl:k=256:=by omega
   go_wp2_with(first|(refine qw rfl _ rfl (w.heap.size+1) rfl _ HB.out ?_)|(refine qq rfl _ _ rfl w.heap.size rfl _ _ rfl HA.out ?_;intro w2 hB2 hg2;have HB2:=q9 hB2;have HG2:=q9 hg2;clear hB2 hg2))
   refine qD (s:=4) (ad:=⟨w.heap.size,0,none⟩) (x:=qW (lT a b 256)) rfl rfl rfl HB2.out.load ?_
   exact⟨rfl,qv (HBL.out.grown HG2.out HBL.out.size (fun k hk=>by cases hk;exact qa _))⟩
def nQ(z x k:Nat):List Value:=[.int .u64 ((if 0<k then wdR z 0 else wdR x 0:Nat):Int),.int .u64 ((if 1<k then wdR z 1 else wdR x 1:Nat):Int),.int .u64 ((if 2<k then wdR z 2 else wdR x 2:Nat):Int),.int .u64 ((if 3<k then wdR z 3 else wdR x 3:Nat):Int)]
theorem nR(z x:Nat){k:Nat}(hk:k<4):(nQ z x k).set k (.int .u64 (wdR z k:Nat))=nQ z x (k+1):=by
 obtain rfl|rfl|rfl|rfl:k=0\/k=1\/k=2\/k=3:=by omega
 all_goals rfl
theorem lW(z x:Nat){k:Nat}(hk:k<4):(nQ z x k).getD k undef=.int .u64 (wdR x k:Nat):=by
 obtain rfl|rfl|rfl|rfl:k=0\/k=1\/k=2\/k=3:=by omega
 all_goals rfl
theorem sL(F:FuncId)(hF:∀args w,(callFunc F args).run Tryd.prog w=.ok (.enter F args) w){x y z:Nat}(_hx:x<2^256)(_hy:y<2^256)(w:World)
  (hG:∀i,i<4->∀W,Calls Tryd.prog F #[.int .u64 (wdR x i:Nat),.int .u64 (wdR y i:Nat)] W fun e w'=>e=.returned (.int .u64 (wdR z i:Nat))/\∃y,w'=ext W y):
  Calls Tryd.prog 78 #[qW x,qW y,.func (.func F) #[] #[]] w (qZ z w):=by
 have hz:=aD;obtain⟨Z,hZ⟩:∃Z,Z=z4:=⟨_,rfl⟩;rw[<-hZ]at hz;obtain⟨X,hX⟩:∃X,X=(wsV x).toArray:=⟨_,rfl⟩;obtain⟨Y,hY⟩:∃Y,Y=(wsV y).toArray:=⟨_,rfl⟩;have hb0:jp (w.alloc (.cells X 72)) w.heap.size x:=by rw[hX];exact jB w x
 have hb1:jp ((w.alloc (.cells X 72)).alloc (.cells Y 72)) (w.heap.size+1) y:=by
  have:=jB (w.alloc (.cells X 72)) y
  rwa [<-hY,show(w.alloc (.cells X 72)).heap.size=w.heap.size+1 by simp]at this
 have hb2:jp (((w.alloc (.cells X 72)).alloc (.cells Y 72)).alloc (.cells Z 72)) (w.heap.size+2) 0:=by
  have:=qV ((w.alloc (.cells X 72)).alloc (.cells Y 72)) Z hZ
  rwa [show((w.alloc (.cells X 72)).alloc (.cells Y 72)).heap.size=w.heap.size+2 by simp]at this
 have H0:=q9 ((hb0.up (qo _ (.cells Y 72))).up (qo _ (.cells Z 72)));have H1:=q9 (hb1.up (qo _ (.cells Z 72)));have H2:=q9 hb2;have HBL:Hid (Below w.heap.size w (((w.alloc (.cells X 72)).alloc (.cells Y 72)).alloc (.cells Z 72))):=q9 (by repeat(first|exact qi _ _|assumption|refine qF ?_ _|refine qj ?_|refine qL ?_ _|refine qx ?_ _))
 have HG:=q9 hG;rw[show qW x=.agg X by rw[hX];rfl,show qW y=.agg Y by rw[hY];rfl]
 clear hb0 hb1 hb2 hX hY hZ hG
 go_enter Tryd.func78,Tryd.ntmps78
 go_wp2
 go_loopg [8] 5 (fun gk i wr=>∃k:Nat,k<=4/\i=.int .i64 k/\Own wr w.heap.size 72 (.slice (some ⟨w.heap.size,0,none⟩) 4 4) (nQ z x k)/\jp wr (w.heap.size+1) y/\jp wr (w.heap.size+2) 0/\Below w.heap.size w wr/\gk=5-k)
 case atStart=>exact⟨0,by omega,rfl,H0.out.own,H1.out,H2.out,HBL.out,rfl⟩
 case round=>
  clear H0 H1 H2 HBL;obtain⟨k,hk,rfl,h0,h1,h2,vH,rfl⟩:=hrel;have H0:=q9 h0;have H1:=q9 h1;have H2:=q9 h2;have HBL:=q9 vH;have hsz:=vH.size;have hl0:=(h0.blk).2;have hl1:=h1.lt;clear h2 vH
  by_cases hlt:k<4
  ·have c0:=h0.cell (i:=k) (by rw[show(nQ z x k).length=4 from rfl];exact hlt)
   rw[lW z x hlt]at c0;have c1:=h1.cell hlt;have HC:=q9 (HG.out k hlt)
   have HST:Hid (∀W,Own W w.heap.size 72 (.slice (some ⟨w.heap.size,0,none⟩) 4 4) (nQ z x k)->Own (W.setCell ⟨w.heap.size,k,none⟩ (.int .u64 (wdR z k:Nat))) w.heap.size 72 (.slice (some ⟨w.heap.size,0,none⟩) 4 4) (nQ z x (k+1))/\W.grownBy (W.setCell ⟨w.heap.size,k,none⟩ (.int .u64 (wdR z k:Nat))) (some w.heap.size)):=q9 (fun W h=>by
    have:=h.store k (.int .u64 (wdR z k:Nat))
    rwa [nR z x hlt]at this)
   have HCE:Hid (∀W,Own W w.heap.size 72 (.slice (some ⟨w.heap.size,0,none⟩) 4 4) (nQ z x k)->W.cell? ⟨w.heap.size,k,none⟩=some (.int .u64 (wdR x k:Nat))/\W.frozen? ⟨w.heap.size,k,none⟩=false):=q9 (fun W h=>⟨by
    have:=h.cell (i:=k) (by rw[show(nQ z x k).length=4 from rfl];exact hlt)
    rwa [lW z x hlt]at this,h.free k⟩)
   clear HG h0 h1;generalize wdR x k=a at*;generalize wdR y k=b at*;generalize wdR z k=c at*;go_wp2;refine jx [0,1,2,5,3,6,4,7] [8,9] [10] (by kernel_rfl) (by kernel_rfl) ?_
   simp only[pk]
   repeat(go_big_quiet_step (fail))
   refine wpQuiet_nil ?_;unfold qX
   go_wp2_with((with_reducible refine(HC.out _).mono ?_);rintro e w3 ⟨rfl,hx⟩;have hb3:=j7 (qy wr 1) (qn hx);have HB3:=q9 hb3;(have H03:=q9 (H0.out.up hb3));obtain⟨c3,f3⟩:=HCE.out _ H03.out;have hl3:=(H03.out.blk).2;clear hx hb3 c0 c1)
   refine⟨qv HB3.out,?_⟩;unfold qX;go_wp2;refine⟨qv HB3.out,?_⟩;unfold qX;unfold qX;go_wp2;refine⟨trivial,?_⟩;unfold qX;obtain⟨hs,hgr⟩:=HST.out _ H03.out;have HS:=q9 hs;have HGR:=q9 hgr;have HB4:=q9 ((HBL.out.trans (HB3.out.mono hsz)).grown hgr (by have:=HB3.out.size;omega) (fun k hk=>by cases hk;exact qa _))
   have H14:=q9 ((H1.out.up HB3.out).keep hgr (by simp))
   have H24:=q9 ((H2.out.up HB3.out).keep hgr (by simp))
   clear hs hgr;generalize w3.setCell ⟨w.heap.size,k,none⟩ (.int .u64 (c:Nat))=w4 at*;go_wp2
   go_roundg (4-k)
   case rel=>exact⟨k+1,by omega,by go_num,HS.out,H14.out,H24.out,HB4.out,by omega⟩
   case measure=>omega
  ·obtain rfl:k=4:=by omega
   have H0:Hid (jp wr w.heap.size z):=q9 ⟨h0⟩
   go_wp2_with(first|(refine qw rfl _ rfl w.heap.size rfl _ H0.out ?_)|(refine qq rfl _ _ rfl (w.heap.size+2) rfl _ _ rfl H2.out ?_;intro w2 hB2 hg2;have HB2:=q9 hB2;have HG2:=q9 hg2;clear hB2 hg2))
   refine qD (s:=6) (ad:=⟨w.heap.size+2,0,none⟩) (x:=qW z) rfl rfl rfl HB2.out.load ?_
   exact⟨rfl,qv (HBL.out.grown HG2.out HBL.out.size (fun k hk=>by cases hk;omega))⟩
theorem uM{a b:Nat}(ha:a<18446744073709551616)(hb:b<18446744073709551616)(w:World):Calls Tryd.prog 81 #[.int .u64 a,.int .u64 b] w fun e w'=>e=.returned (.int .u64 ((a|||b:Nat):Int))/\∃y,w'=ext w y:=by
 have h:=bits_or_u64_nat a b ha hb;have HR:Hid (Ending.returned (.int .u64 (bits .or .u64 (a:Int) (b:Int)))=Ending.returned (.int .u64 ((a|||b:Nat):Int))):=q9 (by rw[h])
 clear h
 go_enter Tryd.func81,Tryd.ntmps81
 go_wp2;go_ret
 exact⟨HR.out,(qv (by repeat(first|exact qi _ _|assumption|refine qF ?_ _|refine qj ?_|refine qL ?_ _|refine qx ?_ _)))⟩
theorem pX{a:Nat}(ha:a<18446744073709551616):bits .xor .u64 IntKind.u64.max (a:Int)=((18446744073709551615-a:Nat):Int):=by
 rw[show IntKind.u64.max=((18446744073709551615:Nat):Int)from rfl,bits_xor_u64_nat _ _ (by decide) ha]
 congr 1
 refine Nat.eq_of_testBit_eq fun j=>?_
 rw[Nat.testBit_xor,show 18446744073709551615-a=2^64-(a+1) by omega,Nat.testBit_two_pow_sub_succ ha,show 18446744073709551615=2^64-1 by decide,Nat.testBit_two_pow_sub_one]
 by_cases hj:j<64
 ·rw[decide_eq_true hj];simp
 ·have h1:2^64<=2^j:=qe (by decide) (by omega)
  rw[decide_eq_false hj,Nat.testBit_lt_two_pow (qd ha h1)];simp
theorem tR{a b:Nat}(ha:a<18446744073709551616)(w:World):Calls Tryd.prog 79 #[.int .u64 a,.int .u64 b] w fun e w'=>e=.returned (.int .u64 ((18446744073709551615-a:Nat):Int))/\∃y,w'=ext w y:=by
 have h:=pX ha;have HR:Hid (Ending.returned (.int .u64 (bits .xor .u64 IntKind.u64.max (a:Int)))=Ending.returned (.int .u64 ((18446744073709551615-a:Nat):Int))):=q9 (by rw[h])
 clear h
 go_enter Tryd.func79,Tryd.ntmps79
 go_wp2;go_ret
 exact⟨HR.out,(qv (by repeat(first|exact qi _ _|assumption|refine qF ?_ _|refine qj ?_|refine qL ?_ _|refine qx ?_ _)))⟩
theorem orP{x y:Nat}(hx:x<2^256)(hy:y<2^256)(w:World):Calls Tryd.prog 76 #[qW x,qW y] w (qZ (x|||y) w):=by
 have hz:=aD;obtain⟨Z,hZ⟩:∃Z,Z=z4:=⟨_,rfl⟩;rw[<-hZ]at hz;obtain⟨X,hX⟩:∃X,X=(wsV x).toArray:=⟨_,rfl⟩;obtain⟨Y,hY⟩:∃Y,Y=(wsV y).toArray:=⟨_,rfl⟩;have hb0:jp (w.alloc (.cells X 72)) w.heap.size x:=by rw[hX];exact jB w x
 have hb1:jp ((w.alloc (.cells X 72)).alloc (.cells Y 72)) (w.heap.size+1) y:=by
  have:=jB (w.alloc (.cells X 72)) y
  rwa [<-hY,show(w.alloc (.cells X 72)).heap.size=w.heap.size+1 by simp]at this
 have hb2:jp (((w.alloc (.cells X 72)).alloc (.cells Y 72)).alloc (.cells Z 72)) (w.heap.size+2) 0:=by
  have:=qV ((w.alloc (.cells X 72)).alloc (.cells Y 72)) Z hZ
  rwa [show((w.alloc (.cells X 72)).alloc (.cells Y 72)).heap.size=w.heap.size+2 by simp]at this
 have H0:=q9 ((hb0.up (qo _ (.cells Y 72))).up (qo _ (.cells Z 72)));have H1:=q9 (hb1.up (qo _ (.cells Z 72)));have H2:=q9 hb2;have HBL:Hid (Below w.heap.size w (((w.alloc (.cells X 72)).alloc (.cells Y 72)).alloc (.cells Z 72))):=q9 (by repeat(first|exact qi _ _|assumption|refine qF ?_ _|refine qj ?_|refine qL ?_ _|refine qx ?_ _))
 have HE:Hid (∀W,Calls Tryd.prog 78 #[qW x,qW y,.func (.func 81) #[] #[]] W (qZ (x|||y) W)):=q9 (fun W=>sL 81 (enters_of (P:=Tryd.prog) Tryd.func81 (by kernel_rfl) rfl) hx hy W (fun i hi W=>by
  have:=uM (gZ x i) (gZ y i) W
  rwa [<-pU]at this))
 rw[show qW x=.agg X by rw[hX];rfl,show qW y=.agg Y by rw[hY];rfl]
 clear hb0 hb1 hb2 hX hY hZ
 go_enter Tryd.func76,Tryd.ntmps76
 go_wp2_with(first
  |(refine qw rfl _ rfl w.heap.size rfl _ H0.out ?_)
  |(refine qw rfl _ rfl (w.heap.size+1) rfl _ H1.out ?_)
  |(refine qq rfl _ _ rfl (w.heap.size+2) rfl _ _ rfl H3.out ?_;intro w2 hB2 hg2;have HB2:=q9 hB2;have HG2:=q9 hg2;clear hB2 hg2)
  |((with_reducible refine(HE.out _).mono ?_);rintro e w3 ⟨rfl,hx3⟩;have hb3:=qn hx3;have H3:=q9 (H2.out.up hb3);have vJ:=q9 (HBL.out.trans (hb3.mono HBL.out.size));clear hx3 hb3))
 refine qD (s:=4) (ad:=⟨w.heap.size+2,0,none⟩) (x:=qW (x|||y)) rfl rfl rfl HB2.out.load ?_
 exact⟨rfl,qv (vJ.out.grown HG2.out vJ.out.size (fun k hk=>by cases hk;omega))⟩
theorem tI{x:Nat}(hx:x<2^256)(w:World):Calls Tryd.prog 70 #[qW x] w (qZ (cB x) w):=by
 have hz:=aD;obtain⟨Z,hZ⟩:∃Z,Z=z4:=⟨_,rfl⟩;rw[<-hZ]at hz;obtain⟨X,hX⟩:∃X,X=(wsV x).toArray:=⟨_,rfl⟩;have hb0:jp (w.alloc (.cells X 72)) w.heap.size x:=by rw[hX];exact jB w x
 have hb2:jp ((w.alloc (.cells X 72)).alloc (.cells Z 72)) (w.heap.size+1) 0:=by
  have:=qV (w.alloc (.cells X 72)) Z hZ
  rwa [show(w.alloc (.cells X 72)).heap.size=w.heap.size+1 by simp]at this
 have H0:=q9 (hb0.up (qo _ (.cells Z 72)));have H2:=q9 hb2;have HBL:Hid (Below w.heap.size w ((w.alloc (.cells X 72)).alloc (.cells Z 72))):=q9 (by repeat(first|exact qi _ _|assumption|refine qF ?_ _|refine qj ?_|refine qL ?_ _|refine qx ?_ _))
 have HE:Hid (∀W,Calls Tryd.prog 78 #[qW x,qW x,.func (.func 79) #[] #[]] W (qZ (cB x) W)):=q9 (fun W=>sL 79 (enters_of (P:=Tryd.prog) Tryd.func79 (by kernel_rfl) rfl) hx hx W (fun i hi W=>by
  have:=tR (b:=wdR x i) (gZ x i) W
  rwa [<-sJ hx hi]at this))
 rw[show qW x=.agg X by rw[hX];rfl]
 clear hb0 hb2 hX hZ
 go_enter Tryd.func70,Tryd.ntmps70
 go_wp2_with(first
  |(refine qw rfl _ rfl w.heap.size rfl _ H0.out ?_)
  |(refine qq rfl _ _ rfl (w.heap.size+1) rfl _ _ rfl H3.out ?_;intro w2 hB2 hg2;have HB2:=q9 hB2;have HG2:=q9 hg2;clear hB2 hg2)
  |((with_reducible refine(HE.out _).mono ?_);rintro e w3 ⟨rfl,hx3⟩;have hb3:=qn hx3;have H3:=q9 (H2.out.up hb3);have vJ:=q9 (HBL.out.trans (hb3.mono HBL.out.size));clear hx3 hb3))
 refine qD (s:=2) (ad:=⟨w.heap.size+1,0,none⟩) (x:=qW (cB x)) rfl rfl rfl HB2.out.load ?_
 exact⟨rfl,qv (vJ.out.grown HG2.out vJ.out.size (fun k hk=>by cases hk;omega))⟩
theorem bZ(c:UInt8)(w:World):Calls Tryd.prog 71 #[.int .u8 (c.toNat:Nat)] w (qZ (jH c) w):=by
 have hz:=aD;obtain⟨Z,hZ⟩:∃Z,Z=z4:=⟨_,rfl⟩;rw[<-hZ]at hz;have H2:=q9 (qV w Z hZ);have HBL:Hid (Below w.heap.size w (w.alloc (.cells Z 72))):=q9 (by repeat(first|exact qi _ _|assumption|refine qF ?_ _|refine qj ?_|refine qL ?_ _|refine qx ?_ _))
 have HE:Hid (∀W,Calls Tryd.prog 80 #[.int .u8 (c.toNat:Nat),.int .u8 (c.toNat:Nat)] W (qZ (jH c) W)):=q9 (fun W=>fS c c W)
 clear hZ
 go_enter Tryd.func71,Tryd.ntmps71
 go_wp2_with(first
  |(refine qq rfl _ _ rfl w.heap.size rfl _ _ rfl H3.out ?_;intro w2 hB2 hg2;have HB2:=q9 hB2;have HG2:=q9 hg2;clear hB2 hg2)
  |((with_reducible refine(HE.out _).mono ?_);rintro e w3 ⟨rfl,hx3⟩;have hb3:=qn hx3;have H3:=q9 (H2.out.up hb3);have vJ:=q9 (HBL.out.trans (hb3.mono HBL.out.size));clear hx3 hb3))
 refine qD (s:=2) (ad:=⟨w.heap.size,0,none⟩) (x:=qW (jH c)) rfl rfl rfl HB2.out.load ?_
 exact⟨rfl,qv (vJ.out.grown HG2.out vJ.out.size (fun k hk=>by cases hk;exact qa _))⟩
theorem lX(l:qM)(hl:l.length<=100)(c:UInt8)(w:World):Calls Tryd.prog 68 #[.string ⟨l.toArray⟩,.int .u8 (c.toNat:Nat)] w fun e w'=>e=.returned (.bool (decide (c∈l)))/\∃x,w'=ext w x:=by
 obtain⟨s,hs⟩:∃s:ByteArray,s=⟨l.toArray⟩:=⟨_,rfl⟩;have hsz:s.size=l.length:=by rw[hs];rfl
 have hby:bys s=l:=by rw[hs];rfl
 have hix:=fun(i:Nat) (h:i<s.size) (W:World)=>jc (P:=Tryd.prog) 9 Tryd.underlying9 h W
 rw[hby,hsz]at hix;have HIX:=q9 hix;have HSZ:=q9 hsz;rw[<-hs];clear hix hby hs;clear hsz;obtain⟨r,hr⟩:∃r,r=decide (c∈l):=⟨_,rfl⟩;have HR:=q9 hr;rw[<-hr];clear hr
 go_enter Tryd.func68,Tryd.ntmps68
 go_wp2;rw[HSZ.out]
 go_loop [8] (fun i=>∃k:Nat,k<=l.length/\i=.int .i64 k/\c∉l.take k) (fun i=>l.length+1-(intOf i).toNat)
 case atStart=>exact⟨0,qc _,rfl,by simp⟩
 case round=>
  obtain⟨k,hk,rfl,hn⟩:=hrel;have HN:=q9 hn;clear hn
  by_cases hlt:k<l.length
  ·have zL:=HIX.out k hlt
   have HT:=q9 (qE l k 0 hlt);have HM:Hid (l.getD k 0∈l):=q9 (by rw[List.getD_eq_getElem?_getD,List.getElem?_eq_getElem hlt];exact List.getElem_mem hlt)
   generalize l.getD k 0=d at*
   by_cases hd:d=c
   ·subst hd
    go_wp2;go_ret
    exact⟨by rw[HR.out,decide_eq_true HM.out];rfl,jt _⟩
   ·have hne:=gM hd
    go_wp2
    go_round
    case rel=>exact⟨k+1,by omega,by go_num,by rw[HT.out];intro h;rcases List.mem_append.1 h with h|h;exact HN.out h;exact hd (List.mem_singleton.1 h).symm⟩
    case measure=>simp[intOf];omega
  ·obtain rfl:k=l.length:=by omega
   go_wp2;go_ret;rw[List.take_length]at HN
   exact⟨by rw[HR.out,decide_eq_false HN.out];rfl,jt _⟩
def dgV(c:UInt8)(b:Int):Value:=.tuple #[.int .i64 (dgR c),.bool (okD c b)]
theorem oX(c:UInt8)(b:Int)(w:World):Calls Tryd.prog 75 #[.int .u8 (c.toNat:Nat),.int .i64 b] w fun e w'=>e=.returned (dgV c b)/\∃x,w'=ext w x:=by
 have hc:=c.toNat_lt;have HD:Hid (dgR c=if 48<=c.toNat/\c.toNat<=57 then(c.toNat:Int)-48 else if 97<=c.toNat/\c.toNat<=102 then(c.toNat:Int)-97+10 else -1):=q9 (by unfold dgR;rfl)
 have HV:Hid (dgV c b=.tuple #[.int .i64 (dgR c),.bool (decide (0<=dgR c)&&decide (dgR c<b))]):=q9 rfl;rw[HV.out];generalize dgR c=D at*;generalize c.toNat=n at*
 by_cases h1:48<=n/\n<=57
 ·obtain⟨a1,a2⟩:=h1
  have HE:Hid (D=(n:Int)-48):=q9 (by rw[HD.out,if_pos ⟨a1,a2⟩])
  clear HD HV
  go_enter Tryd.func75,Tryd.ntmps75
  go_wp2
  go_ret2
  refine⟨?_,(qv (by repeat(first|exact qi _ _|assumption|refine qF ?_ _|refine qj ?_|refine qL ?_ _|refine qx ?_ _)))⟩
  rw[HE.out,decide_eq_true (show(0:Int)<=(n:Int)-48 by omega),Bool.true_and];rfl
 ·by_cases h2:97<=n/\n<=102
  ·obtain⟨a1,a2⟩:=h2
   have HE:Hid (D=(n:Int)-97+10):=q9 (by rw[HD.out,if_neg h1,if_pos ⟨a1,a2⟩])
   have a3:¬n<=57:=by omega
   have a4:48<=n:=by omega
   clear HD HV h1
   go_enter Tryd.func75,Tryd.ntmps75
   go_wp2
   go_ret2
   refine⟨?_,(qv (by repeat(first|exact qi _ _|assumption|refine qF ?_ _|refine qj ?_|refine qL ?_ _|refine qx ?_ _)))⟩
   rw[HE.out,decide_eq_true (show(0:Int)<=(n:Int)-97+10 by omega),Bool.true_and];rfl
  ·have HE:Hid (D= -1):=q9 (by rw[HD.out,if_neg h1,if_neg h2])
   have HE2:Hid (Ending.returned (Value.tuple #[.int .i64 (-1),.bool false])=Ending.returned (.tuple #[.int .i64 D,.bool (decide (0<=D)&&decide (D<b))])):=q9 (by rw[HE.out];rfl)
   clear HD HV HE
   by_cases a1:48<=n
   ·have a2:¬n<=57:=fun h=>h1 ⟨a1,h⟩
    clear h1
    by_cases a3:97<=n
    ·have a4:¬n<=102:=fun h=>h2 ⟨a3,h⟩
     clear h2
     go_enter Tryd.func75,Tryd.ntmps75
     go_wp2
     go_ret2
     exact⟨HE2.out,(qv (by repeat(first|exact qi _ _|assumption|refine qF ?_ _|refine qj ?_|refine qL ?_ _|refine qx ?_ _)))⟩
    ·clear h2
     go_enter Tryd.func75,Tryd.ntmps75
     go_wp2
     go_ret2
     exact⟨HE2.out,(qv (by repeat(first|exact qi _ _|assumption|refine qF ?_ _|refine qj ?_|refine qL ?_ _|refine qx ?_ _)))⟩
   ·have a3:¬97<=n:=by omega
    clear h1 h2
    go_enter Tryd.func75,Tryd.ntmps75
    go_wp2
    go_ret2
    exact⟨HE2.out,(qv (by repeat(first|exact qi _ _|assumption|refine qF ?_ _|refine qj ?_|refine qL ?_ _|refine qx ?_ _)))⟩
theorem sM{c:UInt8}(h:okD c 10=true):∃n:Nat,n<=9/\dgR c=(n:Int):=by
 simp only[okD,Bool.and_eq_true,decide_eq_true_eq]at h
 exact⟨(dgR c).toNat,by omega,by omega⟩
theorem qO.keep{w w':World}{g:Nat}{s:ByteArray}{z:PS}{row:Option Nat}(h:qO w g s z)(hg:w.grownBy w' row)(hne:row≠some g):qO w' g s z:=⟨h.own.keep hg (.inr (fun e=>hne e.symm))⟩
theorem qO.inc{w:World}{g:Nat}{s:ByteArray}{z:PS}(h:qO w g s z):qO (w.setCell ⟨g,1,none⟩ (.int .i64 ((z.p:Int)+1))) g s (qH z)/\w.grownBy (w.setCell ⟨g,1,none⟩ (.int .i64 ((z.p:Int)+1))) (some g):=h.set1 (z.p+1)
theorem qO.inc2{w:World}{g:Nat}{s:ByteArray}{z:PS}(h:qO w g s (qH z)):qO (w.setCell ⟨g,1,none⟩ (.int .i64 ((z.p:Int)+1+1))) g s (qH (qH z))/\w.grownBy (w.setCell ⟨g,1,none⟩ (.int .i64 ((z.p:Int)+1+1))) (some g):=h.set1 (z.p+1+1)
theorem qO.c11{w:World}{g:Nat}{s:ByteArray}{z:PS}(h:qO w g s (qH z)):w.cell? ⟨g,1,none⟩=some (.int .i64 ((z.p:Int)+1)):=h.c1
def jM(v:Value)(g:Nat)(s:ByteArray)(z:PS)(w:World)(e:Ending)(w':World):Prop:=e=.returned v/\qO w' g s z/\w.grownBy w' (some g)
theorem uF{w:World}{g:Nat}{s:ByteArray}{z:PS}(h:qO w g s z)(hs:s.size<=1000000):
  Calls Tryd.prog 72 #[.pointer (some ⟨g,0,none⟩)] w (jM (.int .i64 ((aQ (bys s) z).1:Nat)) g s (aQ (bys s) z).2 w):=by
 have HB:=q9 h;have HN:=q9 (nxP h);have HG:Hid (w.grownBy w (some g)):=q9 (jo _ _);obtain⟨R,hR⟩:∃R,R=aQ (bys s) z:=⟨_,rfl⟩;rw[<-hR]
 have HR:Hid (R=(let c:=(nxR (bys s) z).getD 0
  if okD c 10 then
   let d:=(nxR (bys s) (qH z)).getD 0
   if okD d 10 then(10*(dgR c).toNat+(dgR d).toNat,qH (qH z))else((dgR c).toNat,qH z)
  else(0,qC 15 z.p z))):=q9 (by rw[hR];rfl)
 have HD:Hid (∀(c:UInt8) W,Calls Tryd.prog 75 #[.int .u8 (c.toNat:Nat),.int .i64 10] W fun e w'=>e=.returned (dgV c 10)/\∃x,w'=ext W x):=q9 (fun c W=>oX c 10 W)
 clear h hR
 by_cases hk:okD ((nxR (bys s) z).getD 0) 10=true
 ·obtain⟨c0,hc0,-⟩:=nH hk
  obtain⟨hz0,hzp,-⟩:=qS hc0;rw[qt]at hzp;have HDG:=q9 (sM hk);have HN2:Hid (∀W,qO W g s (qH z)->Calls Tryd.prog 30 #[.pointer (some ⟨g,0,none⟩)] W fun e w'=>e=.returned (nxV (nxR (bys s) (qH z)))/\∃x,w'=ext W x):=q9 (fun W h=>nxP h)
  clear hc0
  by_cases hk2:okD ((nxR (bys s) (qH z)).getD 0) 10=true
  ·have HR2:Hid (R=(10*(dgR ((nxR (bys s) z).getD 0)).toNat+(dgR ((nxR (bys s) (qH z)).getD 0)).toNat,qH (qH z))):=q9 (by rw[HR.out];simp only[hk,hk2,if_true])
   obtain⟨c1,hc1,-⟩:=nH hk2;obtain⟨hz1,wQ,-⟩:=qS hc1;rw[qt]at wQ;have yV:=q9 (sM hk2);clear HR hc1;unfold nxV dgV at*;generalize (nxR (bys s) z).getD 0=c at*;generalize (nxR (bys s) z).isSome=b at*;generalize (nxR (bys s) (qH z)).getD 0=d at*;generalize (nxR (bys s) (qH z)).isSome=b2 at*;obtain⟨n,hn9,hn⟩:=HDG.out;obtain⟨m,hm9,hm⟩:=yV.out;have HNN:=q9 hn;have HMM:=q9 hm;clear HDG yV hn hm
   go_enter Tryd.func72,Tryd.ntmps72
   go_wp2;refine wp_loop_rounds 3 ?_;rw[rounds_succ]
   go_wp2_with(first
    |((with_reducible refine(HN.out).mono ?_);rintro e w1 ⟨rfl,hx⟩;have hb1:=qn hx;have HB1:=q9 (HB.out.up hb1);have HG1:=q9 (qs hb1 (some g));have c1:=HB1.out.c1;clear hx hb1)
    |((with_reducible refine(HD.out c _).mono ?_);rintro e w2 ⟨rfl,hx⟩;have hb1:=qn hx;have HB2:=q9 (HB1.out.up hb1);have HG2:=q9 (qr HG1.out (qs hb1 (some g)));have c12:=HB2.out.c1;have f12:=HB2.out.free 1;have HS:=q9 HB2.out.inc;rw[hk,HNN.out];clear hx hb1)
    |((with_reducible refine(HN2.out _ HS.out.1).mono ?_);rintro e w3 ⟨rfl,hx⟩;have hb1:=qn hx;have HB3:=q9 (HS.out.1.up hb1);have HG3:=q9 (qr (qr HG2.out HS.out.2) (qs hb1 (some g)));have c13:=HB3.out.c11;clear hx hb1)
    |((with_reducible refine(HD.out d _).mono ?_);rintro e w4 ⟨rfl,hx⟩;have hb1:=qn hx;have HB4:=q9 (HB3.out.up hb1);have HG4:=q9 (qr HG3.out (qs hb1 (some g)));have c14:=HB4.out.c11;have f14:=HB4.out.free 1;have HS2:=q9 HB4.out.inc2;rw[hk2,HMM.out];clear hx hb1))
   rw[rounds_succ]
   go_wp2_with(first
    |((with_reducible refine(HN.out).mono ?_);rintro e w1 ⟨rfl,hx⟩;have hb1:=qn hx;have HB1:=q9 (HB.out.up hb1);have HG1:=q9 (qs hb1 (some g));have c1:=HB1.out.c1;clear hx hb1)
    |((with_reducible refine(HD.out c _).mono ?_);rintro e w2 ⟨rfl,hx⟩;have hb1:=qn hx;have HB2:=q9 (HB1.out.up hb1);have HG2:=q9 (qr HG1.out (qs hb1 (some g)));have c12:=HB2.out.c1;have f12:=HB2.out.free 1;have HS:=q9 HB2.out.inc;rw[hk,HNN.out];clear hx hb1)
    |((with_reducible refine(HN2.out _ HS.out.1).mono ?_);rintro e w3 ⟨rfl,hx⟩;have hb1:=qn hx;have HB3:=q9 (HS.out.1.up hb1);have HG3:=q9 (qr (qr HG2.out HS.out.2) (qs hb1 (some g)));have c13:=HB3.out.c11;clear hx hb1)
    |((with_reducible refine(HD.out d _).mono ?_);rintro e w4 ⟨rfl,hx⟩;have hb1:=qn hx;have HB4:=q9 (HB3.out.up hb1);have HG4:=q9 (qr HG3.out (qs hb1 (some g)));have c14:=HB4.out.c11;have f14:=HB4.out.free 1;have HS2:=q9 HB4.out.inc2;rw[hk2,HMM.out];clear hx hb1))
   rw[rounds_succ];go_wp2;go_ret;rw[HR2.out];refine⟨?_,HS2.out.1,qr HG4.out HS2.out.2⟩;rw[HNN.out,HMM.out]
   simp
  ·have xN:okD ((nxR (bys s) (qH z)).getD 0) 10=false:=by simpa using hk2
   have HR2:Hid (R=((dgR ((nxR (bys s) z).getD 0)).toNat,qH z)):=q9 (by rw[HR.out];simp only[hk,xN,if_true];rfl)
   clear HR hk2;unfold nxV dgV at*;generalize (nxR (bys s) z).getD 0=c at*;generalize (nxR (bys s) z).isSome=b at*;generalize (nxR (bys s) (qH z)).getD 0=d at*;generalize (nxR (bys s) (qH z)).isSome=b2 at*;obtain⟨n,hn9,hn⟩:=HDG.out;have HNN:=q9 hn;clear HDG hn
   go_enter Tryd.func72,Tryd.ntmps72
   go_wp2;refine wp_loop_rounds 2 ?_;rw[rounds_succ]
   go_wp2_with(first
    |((with_reducible refine(HN.out).mono ?_);rintro e w1 ⟨rfl,hx⟩;have hb1:=qn hx;have HB1:=q9 (HB.out.up hb1);have HG1:=q9 (qs hb1 (some g));have c1:=HB1.out.c1;clear hx hb1)
    |((with_reducible refine(HD.out c _).mono ?_);rintro e w2 ⟨rfl,hx⟩;have hb1:=qn hx;have HB2:=q9 (HB1.out.up hb1);have HG2:=q9 (qr HG1.out (qs hb1 (some g)));have c12:=HB2.out.c1;have f12:=HB2.out.free 1;have HS:=q9 HB2.out.inc;rw[hk,HNN.out];clear hx hb1)
    |((with_reducible refine(HN2.out _ HS.out.1).mono ?_);rintro e w3 ⟨rfl,hx⟩;have hb1:=qn hx;have HB3:=q9 (HS.out.1.up hb1);have HG3:=q9 (qr (qr HG2.out HS.out.2) (qs hb1 (some g)));have c13:=HB3.out.c11;clear hx hb1)
    |((with_reducible refine(HD.out d _).mono ?_);rintro e w4 ⟨rfl,hx⟩;have hb1:=qn hx;have HB4:=q9 (HB3.out.up hb1);have HG4:=q9 (qr HG3.out (qs hb1 (some g)));have c14:=HB4.out.c11;rw[xN];clear hx hb1))
   rw[rounds_succ]
   go_wp2_with(first
    |((with_reducible refine(HN.out).mono ?_);rintro e w1 ⟨rfl,hx⟩;have hb1:=qn hx;have HB1:=q9 (HB.out.up hb1);have HG1:=q9 (qs hb1 (some g));have c1:=HB1.out.c1;clear hx hb1)
    |((with_reducible refine(HD.out c _).mono ?_);rintro e w2 ⟨rfl,hx⟩;have hb1:=qn hx;have HB2:=q9 (HB1.out.up hb1);have HG2:=q9 (qr HG1.out (qs hb1 (some g)));have c12:=HB2.out.c1;have f12:=HB2.out.free 1;have HS:=q9 HB2.out.inc;rw[hk,HNN.out];clear hx hb1)
    |((with_reducible refine(HN2.out _ HS.out.1).mono ?_);rintro e w3 ⟨rfl,hx⟩;have hb1:=qn hx;have HB3:=q9 (HS.out.1.up hb1);have HG3:=q9 (qr (qr HG2.out HS.out.2) (qs hb1 (some g)));have c13:=HB3.out.c11;clear hx hb1)
    |((with_reducible refine(HD.out d _).mono ?_);rintro e w4 ⟨rfl,hx⟩;have hb1:=qn hx;have HB4:=q9 (HB3.out.up hb1);have HG4:=q9 (qr HG3.out (qs hb1 (some g)));have c14:=HB4.out.c11;rw[xN];clear hx hb1))
   go_ret;rw[HR2.out];refine⟨?_,HB4.out,HG4.out⟩;rw[HNN.out]
   simp
 ·have hk':okD ((nxR (bys s) z).getD 0) 10=false:=by simpa using hk
  have HR2:Hid (R=(0,qC 15 z.p z)):=q9 (by rw[HR.out];simp only[hk'];rfl)
  have HF:Hid (∀W,qO W g s z->Calls Tryd.prog 31 #[.pointer (some ⟨g,0,none⟩),.int .i64 15,.int .i64 z.p] W fun en w'=>en=.returned (.tuple #[])/\qO w' g s (qC 15 z.p z)/\W.grownBy w' (some g)):=q9 (fun W h=>bY h 15 z.p)
  clear HR hk;unfold nxV dgV at*;generalize (nxR (bys s) z).getD 0=c at*;generalize (nxR (bys s) z).isSome=b at*
  go_enter Tryd.func72,Tryd.ntmps72
  go_wp2;refine wp_loop_rounds 2 ?_;rw[rounds_succ]
  go_wp2_with(first
   |((with_reducible refine(HN.out).mono ?_);rintro e w1 ⟨rfl,hx⟩;have hb1:=qn hx;have HB1:=q9 (HB.out.up hb1);have HG1:=q9 (qs hb1 (some g));have c1:=HB1.out.c1;clear hx hb1)
   |((with_reducible refine(HD.out _ _).mono ?_);rintro e w2 ⟨rfl,hx⟩;have hb1:=qn hx;have HB2:=q9 (HB1.out.up hb1);have HG2:=q9 (qr HG1.out (qs hb1 (some g)));have c12:=HB2.out.c1;rw[hk'];clear hx hb1)
   |((with_reducible refine(HF.out _ HB2.out).mono ?_);rintro e w3 ⟨rfl,hB3,hg3⟩;have HB3:=q9 hB3;have HG3:=q9 (qr HG2.out hg3);clear hB3 hg3))
  go_ret;rw[HR2.out]
  exact⟨rfl,HB3.out,HG3.out⟩
theorem aE{w w1 w2:World}{row row':Option Nat}(h:w.grownBy w1 row)(hg:w1.grownBy w2 row')(hr:∀k,row'=some k->w.heap.size<=k):w.grownBy w2 row:=
 ⟨hg.os.trans h.os,hg.tape.trans h.tape,hg.output.trans h.output,qb h.size hg.size,fun k hk h1=>by
  rw[hg.block k (qd hk h.size) (fun e=>by have:=hr k e.symm;omega),h.block k hk h1]⟩
structure a7(w:World)(b:Nat)(x:Nd):Prop where
 own:Own w b 74 (.slice (some ⟨b,0,none⟩) 8 8) (ndC x)
theorem a7.up{w w':World}{b:Nat}{x:Nd}(h:a7 w b x)(hb:Below w.heap.size w w'):a7 w' b x:=⟨h.own.up hb⟩
theorem a7.keep{w w':World}{b:Nat}{x:Nd}{row:Option Nat}(h:a7 w b x)(hg:w.grownBy w' row)(hne:row≠some b):a7 w' b x:=⟨h.own.keep hg (.inr (fun e=>hne e.symm))⟩
theorem nT(x:Nd):(ndA x).toList=ndC x:=rfl
theorem bM(w:World)(x:Nd)(A:Array Value)(hA:A=ndA x):a7 (w.alloc (.cells A 74)) w.heap.size x:=by
 subst hA
 exact⟨jj w w.heap.size (ndA x) 74 (by simp[ndA]) (qa _)⟩
theorem a7.load{w:World}{b:Nat}{x:Nd}(h:a7 w b x):(loadVar 74 ⟨b,0,none⟩).run Tryd.prog w=.ok (.agg (ndA x)) w:=aL h.own _ Tryd.underlying74 rfl (by kernel_rfl)
theorem jf{ops:Array Oper}{rest:List Oper}{o:Oper}{a:Act}{w:World}{Q:Exit->Act->World->Prop}(hgd:o.guard=none)(x y:Operand)(ho:o.op=.store 74 x y)
  (b:Nat) (hx:a.eval x=.pointer (some ⟨b,0,none⟩)) (s t:Nd) (hy:a.eval y=.agg (ndA t)) (hown:a7 w b s)
  (h:∀w',a7 w' b t->w.grownBy w' (some b)->wpList Tryd.prog ops Q rest (a.put o.dst undef) w'):wpList Tryd.prog ops Q (o::rest) a w:=by
 refine j5 hgd 74 x y ho b 74 b 8 8 hx (ndA t) hy (by kernel_rfl) (ndC s) hown.own (by simp[ndA,ndC]) (fun u hu=>?_) fun w' hw hg=>h w' ⟨?_⟩ hg
 ·simp only[ndA,List.mem_cons,List.not_mem_nil,or_false]at hu
  rcases hu with rfl|rfl|rfl|rfl|rfl|rfl|rfl|rfl<;>rfl
 ·exact hw
theorem sN(lo hi:Int):decide (0<=lo/\lo<=30/\(hi= -1\/(lo<=hi/\hi<=30)))=s7 lo hi:=by
 rw[Bool.eq_iff_iff];unfold s7;simp[Bool.and_eq_true]
theorem uN{w:World}{g:Nat}{s:ByteArray}{z:PS}{c:UInt8}(h:qO w g s z)(hs:s.size<=1000000)(hc:nxR (bys s) z=some c):
  Calls Tryd.prog 65 #[.pointer (some ⟨g,0,none⟩)] w (jM (.agg (ndA (gN (bys s) z).1)) g s (gN (bys s) z).2 w):=by
 obtain⟨hz0,hzp,-⟩:=qS hc;rw[qt]at hzp;have c1:=h.c1;have f1:=h.free 1;have hgl:=h.lt;obtain⟨hi1,hi2⟩:=h.inc;have hbA:=qo (w.setCell ⟨g,1,none⟩ (.int .i64 ((z.p:Int)+1))) (.cells #[.int .i64 0,.int .i64 0,.int .u64 0,.int .u64 0,.int .u64 0,.int .u64 0,.int .i64 0,.int .i64 0] 74);have HS:=q9 (hi1.up hbA);have HGA:=q9 (qr hi2 (qs hbA (some g)))
 have A2:Hid (a7 ((w.setCell ⟨g,1,none⟩ (.int .i64 ((z.p:Int)+1))).alloc (.cells #[.int .i64 0,.int .i64 0,.int .u64 0,.int .u64 0,.int .u64 0,.int .u64 0,.int .i64 0,.int .i64 0] 74)) w.heap.size zN):=q9 (by
  have:=bM (w.setCell ⟨g,1,none⟩ (.int .i64 ((z.p:Int)+1))) zN _ rfl
  rwa [show(w.setCell ⟨g,1,none⟩ (.int .i64 ((z.p:Int)+1))).heap.size=w.heap.size by simp]at this)
 clear hi1 hi2;have HN1:Hid (∀W,qO W g s (qH z)->Calls Tryd.prog 72 #[.pointer (some ⟨g,0,none⟩)] W (jM (.int .i64 ((aQ (bys s) (qH z)).1:Nat)) g s (aQ (bys s) (qH z)).2 W)):=q9 (fun W h=>uF h hs)
 obtain⟨R,hR⟩:∃R,R=gN (bys s) z:=⟨_,rfl⟩;rw[<-hR];unfold gN cE at hR;simp only at hR;generalize aQ (bys s) (qH z)=N1 at*;obtain⟨n,z1⟩:=N1;have HT1:Hid (∀W,qO W g s z1->Calls Tryd.prog 43 #[.pointer (some ⟨g,0,none⟩),.int .u8 44] W (jM (.bool (qz (bys s) 44 z1).1) g s (qz (bys s) 44 z1).2 W)):=q9 (fun W h=>gY h hs 44)
 simp only at hR HN1;generalize qz (bys s) 44 z1=T1 at*;obtain⟨bt,zt⟩:=T1;have HX1:Hid (∀W,qO W g s zt->Calls Tryd.prog 30 #[.pointer (some ⟨g,0,none⟩)] W fun e w'=>e=.returned (nxV (nxR (bys s) zt))/\∃x,w'=ext W x):=q9 (fun W h=>nxP h)
 have HN2:Hid (∀W,qO W g s zt->Calls Tryd.prog 72 #[.pointer (some ⟨g,0,none⟩)] W (jM (.int .i64 ((aQ (bys s) zt).1:Nat)) g s (aQ (bys s) zt).2 W)):=q9 (fun W h=>uF h hs)
 simp only at hR HT1;unfold nxV at HX1;generalize (nxR (bys s) zt).getD 0=ch at*;generalize (nxR (bys s) zt).isSome=cs at*;generalize aQ (bys s) zt=N2 at*;obtain⟨m,zm⟩:=N2;simp only at hR HN2;clear hz0 hc h hbA
 obtain⟨hi,zh,z9,hRw⟩:∃(hi:Int) (zh:PS),((bt=false/\hi=n/\zh=zt)\/(bt=true/\ch=125/\hi= -1/\zh=zt)\/(bt=true/\ch≠125/\hi=m/\zh=zm))/\
   R=(⟨8,0,0,0,0,0,n,hi⟩,if s7 n hi then(if(qz (bys s) 125 zh).1 then(qz (bys s) 125 zh).2 else qC 15 (qz (bys s) 125 zh).2.p (qz (bys s) 125 zh).2)else qC 18 z.p (if(qz (bys s) 125 zh).1 then(qz (bys s) 125 zh).2 else qC 15 (qz (bys s) 125 zh).2.p (qz (bys s) 125 zh).2)):=by
  cases bt
  ·exact⟨n,zt,.inl ⟨rfl,rfl,rfl⟩,hR⟩
  ·by_cases hch:ch=125
   ·rw[if_pos rfl,if_pos hch]at hR
    exact⟨-1,zt,.inr (.inl ⟨rfl,hch,rfl,rfl⟩),hR⟩
   ·rw[if_pos rfl,if_neg hch]at hR
    exact⟨m,zm,.inr (.inr ⟨rfl,hch,rfl,rfl⟩),hR⟩
 clear hR;have HT2:Hid (∀W,qO W g s zh->Calls Tryd.prog 43 #[.pointer (some ⟨g,0,none⟩),.int .u8 125] W (jM (.bool (qz (bys s) 125 zh).1) g s (qz (bys s) 125 zh).2 W)):=q9 (fun W h=>gY h hs 125)
 generalize qz (bys s) 125 zh=T2 at*;obtain⟨b2,z4⟩:=T2;simp only at hRw HT2;have HF1:Hid (∀W,qO W g s z4->Calls Tryd.prog 31 #[.pointer (some ⟨g,0,none⟩),.int .i64 15,.int .i64 z4.p] W (jM (.tuple #[]) g s (qC 15 z4.p z4) W)):=q9 (fun W h=>bY h 15 z4.p)
 have HC:Hid (∀W,Calls Tryd.prog 57 #[.int .i64 n,.int .i64 hi] W fun e w'=>e=.returned (.bool (s7 n hi))/\∃x,w'=ext W x):=q9 (fun W=>by have:=d8 (w:=W) n hi;rwa [sN]at this)
 have HF2:Hid (∀W y,qO W g s y->Calls Tryd.prog 31 #[.pointer (some ⟨g,0,none⟩),.int .i64 18,.int .i64 z.p] W (jM (.tuple #[]) g s (qC 18 z.p y) W)):=q9 (fun W y h=>bY h 18 z.p)
 generalize s7 n hi=cn at*;have HR:=q9 hRw;clear hRw;have yJ:ch≠125->¬ch.toNat=125:=fun h e=>h (UInt8.toNat_inj.1 e)
 rcases z9 with⟨rfl,rfl,rfl⟩|⟨rfl,rfl,rfl,rfl⟩|⟨rfl,hch,rfl,rfl⟩
 rotate_left 2
 have C9:=yJ hch;clear hch
 all_goals clear yJ
 all_goals
  cases b2
  all_goals
   cases cn
   all_goals
    go_enter Tryd.func65,Tryd.ntmps65
    go_wp2_with(first
     |((with_reducible refine(HN1.out _ HS.out).mono ?_);rintro e w1 ⟨rfl,hB,hg⟩;have HB1:=q9 hB;have HG1:=q9 (qr HGA.out hg);have HM1:=q9 (A2.out.keep hg (fun e=>by injection e with e;omega));clear hB hg)
     |((with_reducible refine(HT1.out _ HB1.out).mono ?_);rintro e w2 ⟨rfl,hB,hg⟩;have HB2:=q9 hB;have HG2:=q9 (qr HG1.out hg);have HM2:=q9 (HM1.out.keep hg (fun e=>by injection e with e;omega));clear hB hg)
     |((with_reducible refine(HX1.out _ HB2.out).mono ?_);rintro e w5 ⟨rfl,hx⟩;have hb:=qn hx;have z6:=q9 (HB2.out.up hb);have yQ:=q9 (qr HG2.out (qs hb (some g)));have yO:=q9 (HM2.out.up hb);clear hx hb)
     |((with_reducible refine(HN2.out _ z6.out).mono ?_);rintro e w2 ⟨rfl,hB,hg⟩;have B2:=q9 hB;have A7:=q9 (qr yQ.out hg);have A3:=q9 (yO.out.keep hg (fun e=>by injection e with e;omega));clear hB hg)
     |((with_reducible refine(HT2.out _ B2.out).mono ?_);rintro e w3 ⟨rfl,hB,hg⟩;have HB3:=q9 hB;have HG3:=q9 (qr A7.out hg);have HM3:=q9 (A3.out.keep hg (fun e=>by injection e with e;omega));have c13:=HB3.out.c1;clear hB hg)
     |((with_reducible refine(HT2.out _ z6.out).mono ?_);rintro e w3 ⟨rfl,hB,hg⟩;have HB3:=q9 hB;have HG3:=q9 (qr yQ.out hg);have HM3:=q9 (yO.out.keep hg (fun e=>by injection e with e;omega));have c13:=HB3.out.c1;clear hB hg)
     |((with_reducible refine(HT2.out _ HB2.out).mono ?_);rintro e w3 ⟨rfl,hB,hg⟩;have HB3:=q9 hB;have HG3:=q9 (qr HG2.out hg);have HM3:=q9 (HM2.out.keep hg (fun e=>by injection e with e;omega));have c13:=HB3.out.c1;clear hB hg)
     |((with_reducible refine(HF1.out _ HB3.out).mono ?_);rintro e w3 ⟨rfl,hB,hg⟩;have HB4:=q9 hB;have HG4:=q9 (qr HG3.out hg);have HM4:=q9 (HM3.out.keep hg (fun e=>by injection e with e;omega));clear hB hg)
     |((with_reducible refine(HC.out _).mono ?_);rintro e w5 ⟨rfl,hx⟩;have hb:=qn hx;first|(have HB5:=q9 (HB4.out.up hb);have HG5:=q9 (qr HG4.out (qs hb (some g)));have HM5:=q9 (HM4.out.up hb))|(have HB5:=q9 (HB3.out.up hb);have HG5:=q9 (qr HG3.out (qs hb (some g)));have HM5:=q9 (HM3.out.up hb));clear hx hb)
     |((with_reducible refine(HF2.out _ _ HB5.out).mono ?_);rintro e w3 ⟨rfl,hB,hg⟩;have HB6:=q9 hB;have HG6:=q9 (qr HG5.out hg);have HM6:=q9 (HM5.out.keep hg (fun e=>by injection e with e;omega));clear hB hg)
     |(refine jf rfl _ _ rfl w.heap.size rfl _ ⟨8,0,0,0,0,0,n,_⟩ rfl (by first|exact HM6.out|exact HM5.out) ?_;intro w7 hB2 hg2;have HM7:=q9 hB2;have HG7:=q9 hg2;clear hB2 hg2))
    refine qD (s:=2) (ad:=⟨w.heap.size,0,none⟩) (x:=.agg (ndA ⟨8,0,0,0,0,0,n,_⟩)) rfl rfl rfl HM7.out.load ?_;rw[HR.out]
    first
     |exact⟨rfl,HB6.out.keep HG7.out (fun e=>by injection e with e;omega),aE HG6.out HG7.out (fun k e=>by injection e with e;omega)⟩
     |exact⟨rfl,HB5.out.keep HG7.out (fun e=>by injection e with e;omega),aE HG5.out HG7.out (fun k e=>by injection e with e;omega)⟩
def tM(c:UInt8):Value:=.tuple #[qW ((iY c).getD 0),.bool (iY c).isSome]
theorem iI:kX<2^256:=fQ _ _
theorem iJ:bB 97 122<2^256:=fQ _ _
theorem nU:bB 65 90<2^256:=fQ _ _
theorem jp.heap{w:World}{g x:Nat}(h:jp w g x):w.heap[g]? =some (.cells (wsV x).toArray 72 (0,0)):=by
 obtain⟨A,hg,-,hA⟩:=h.own.whole;rw[hg,<-hA]
theorem qN{C:World->Prop}{o:Oper}{a:Act}{K:Act->Prop}(x:Operand)(ho:o.op=.load 72 x)(g:Nat)(hx:a.eval x=.pointer (some ⟨g,0,none⟩))(s:Nat)
  (hg:∀w',C w'->jp w' g s) (h:K (a.put o.dst (qW s))):o.quiet Tryd.prog a C K:=
 aT 72 4 x ho g hx (wsV s).toArray rfl (fun w' hw=>(hg w' hw).heap) _ Tryd.underlying72 rfl (by kernel_rfl) h
theorem qG{w w1 w2:World}{row:Option Nat}(h:Below w.heap.size w w1)(hg:w1.grownBy w2 row)(hr:∀k,row=some k->w.heap.size<=k):Below w.heap.size w w2:=h.grown hg h.size hr
theorem sO(c:UInt8)(w:World):Calls Tryd.prog 73 #[.int .u8 (c.toNat:Nat)] w fun e w'=>e=.returned (tM c)/\∃x,w'=ext w x:=by
 have hz:=aD;obtain⟨Z,hZ⟩:∃Z,Z=z4:=⟨_,rfl⟩;rw[<-hZ]at hz;have H2:=q9 (qV w Z hZ);have HBL:Hid (Below w.heap.size w (w.alloc (.cells Z 72))):=q9 (by repeat(first|exact qi _ _|assumption|refine qF ?_ _|refine qj ?_|refine qL ?_ _|refine qx ?_ _))
 have HNW:Hid (∀W:World,jp (W.alloc (.cells Z 72)) W.heap.size 0):=q9 (fun W=>qV W Z hZ)
 have HD:Hid (∀W,Calls Tryd.prog 80 #[.int .u8 48,.int .u8 57] W (qZ kX W)):=q9 (fun W=>fS 48 57 W)
 have HZV:Hid (Value.agg Z=qW 0):=q9 (by rw[hZ];rfl)
 have HV:Hid (tM c=.tuple #[qW ((iY c).getD 0),.bool (iY c).isSome]):=q9 rfl;rw[HV.out];unfold iY;clear hZ HV
 by_cases hd:c=100
 ·subst hd
  rw[if_pos rfl]
  go_enter Tryd.func73,Tryd.ntmps73
  go_wp2_with(first
   |((with_reducible refine(HD.out _).mono ?_);rintro e w3 ⟨rfl,hx3⟩;have hb3:=qn hx3;have H3:=q9 (H2.out.up hb3);have vJ:=q9 (HBL.out.trans (hb3.mono HBL.out.size));have HN3:=q9 (HNW.out w3);have hba:=qo w3 (.cells Z 72);have H31:=q9 (H3.out.up hba);have x9:=q9 (vJ.out.trans (hba.mono vJ.out.size));have hs3:w.heap.size<w3.heap.size:=qd (H2.out.lt) hb3.size;clear hx3 hb3 hba)
   |(refine qq rfl _ _ rfl w3.heap.size rfl _ _ rfl HN3.out ?_;intro w4 hB2 hg2;have HN4:=q9 hB2;have HB4:=q9 (qG x9.out hg2 (fun k e=>by injection e with e;omega));have H4:=q9 (H31.out.keep hg2 (fun e=>by injection e with e;omega));clear hB2 hg2)
   |(refine qw rfl _ rfl w3.heap.size rfl _ HN4.out ?_)
   |(refine qq rfl _ _ rfl w.heap.size rfl _ _ rfl H4.out ?_;intro w5 hB2 hg2;have H5:=q9 hB2;have HB5:=q9 (qG HB4.out hg2 (fun k e=>by injection e with e;omega));clear hB2 hg2))
  refine qI (s:=2) (b:=3) (ad:=⟨w.heap.size,0,none⟩) (x:=qW kX) (y:=.bool true) rfl rfl rfl rfl H5.out.load ?_
  exact⟨rfl,qv HB5.out⟩
 ·have hdn:¬c.toNat=100:=fun e=>hd (UInt8.toNat_inj.1 e)
  rw[if_neg hd]
  by_cases hw:c=119
  ·subst hw
   rw[if_pos rfl];have HL:Hid (∀W,Calls Tryd.prog 80 #[.int .u8 97,.int .u8 122] W (qZ (bB 97 122) W)):=q9 (fun W=>fS 97 122 W)
   have HU:Hid (∀W,Calls Tryd.prog 80 #[.int .u8 65,.int .u8 90] W (qZ (bB 65 90) W)):=q9 (fun W=>fS 65 90 W)
   have HO1:Hid (∀W,Calls Tryd.prog 76 #[qW (bB 97 122),qW (bB 65 90)] W (qZ (bB 97 122|||bB 65 90) W)):=q9 (fun W=>orP iJ nU W)
   have HO2:Hid (∀W,Calls Tryd.prog 76 #[qW kX,qW (bB 97 122|||bB 65 90)] W (qZ (kX|||(bB 97 122|||bB 65 90)) W)):=q9 (fun W=>orP iI (jA iJ nU) W)
   have HS1:Hid (∀W,Calls Tryd.prog 71 #[.int .u8 95] W (qZ (jH 95) W)):=q9 (fun W=>bZ 95 W)
   have HO3:Hid (∀W,Calls Tryd.prog 76 #[qW (jH 95),qW (kX|||(bB 97 122|||bB 65 90))] W (qZ sB W)):=q9 (fun W=>orP (fR _) (jA iI (jA iJ nU)) W)
   generalize bB 97 122|||bB 65 90=lu at*;generalize kX|||lu=dlu at*;generalize bB 97 122=lo at*;generalize bB 65 90=up at*;generalize jH 95=on at*;generalize sB=wrd at*;generalize kX=dg at*;have C5:¬(119:Nat)=100:=by decide
   go_enter Tryd.func73,Tryd.ntmps73
   go_wp2_with(first
    |((with_reducible refine(HD.out _).mono ?_);rintro e w3 ⟨rfl,hx3⟩;have hb3:=qn hx3;have H3:=q9 (H2.out.up hb3);have vJ:=q9 (HBL.out.trans (hb3.mono HBL.out.size));have HN3:=q9 (HNW.out w3);have hba:=qo w3 (.cells Z 72);have H31:=q9 (H3.out.up hba);have x9:=q9 (vJ.out.trans (hba.mono vJ.out.size));have hs3:w.heap.size<w3.heap.size:=qd (H2.out.lt) hb3.size;clear hx3 hb3 hba)
    |(refine qq rfl _ _ rfl w3.heap.size rfl _ _ rfl HN3.out ?_;intro w4 hB2 hg2;have HN4:=q9 hB2;have HB4:=q9 (qG x9.out hg2 (fun k e=>by injection e with e;omega));have H4:=q9 (H31.out.keep hg2 (fun e=>by injection e with e;omega));clear hB2 hg2)
    |((with_reducible refine(HL.out _).mono ?_);rintro e w5 ⟨rfl,hx3⟩;have hb3:=qn hx3;have H5:=q9 (H4.out.up hb3);have HN5:=q9 (HN4.out.up hb3);have HB5:=q9 (HB4.out.trans (hb3.mono HB4.out.size));clear hx3 hb3)
    |((with_reducible refine(HU.out _).mono ?_);rintro e w6 ⟨rfl,hx3⟩;have hb3:=qn hx3;have H6:=q9 (H5.out.up hb3);have HN6:=q9 (HN5.out.up hb3);have HB6:=q9 (HB5.out.trans (hb3.mono HB5.out.size));clear hx3 hb3)
    |((with_reducible refine(HO1.out _).mono ?_);rintro e w7 ⟨rfl,hx3⟩;have hb3:=qn hx3;have hba:=qo w7 (.cells Z 72);have H7:=q9 ((H6.out.up hb3).up hba);have HN7:=q9 ((HN6.out.up hb3).up hba);have HBb:=q9 (HB6.out.trans (hb3.mono HB6.out.size));have HB7:=q9 (HBb.out.trans (hba.mono HBb.out.size));have HM7:=q9 (HNW.out w7);have hs7:w3.heap.size<w7.heap.size:=qd (HN6.out.lt) hb3.size;clear hx3 hb3 hba)
    |(refine qq rfl _ _ rfl w7.heap.size rfl _ _ rfl HM7.out ?_;intro w8 hB2 hg2;have HM8:=q9 hB2;have HB8:=q9 (qG HB7.out hg2 (fun k e=>by injection e with e;omega));have H8:=q9 (H7.out.keep hg2 (fun e=>by injection e with e;omega));have HN8:=q9 (HN7.out.keep hg2 (fun e=>by injection e with e;omega));clear hB2 hg2))
   have HG0:Hid (w8.grownBy w8.drew (some w.heap.size)):=q9 (bU w8 _);refine cJ (fun w'=>∃x,w'=chg w8 (some w.heap.size) x) [([1,2],[0,3,4,5]),([6],[])] (by kernel_rfl) (by kernel_rfl) (a9 HG0.out) ?_
   (unfold jQ;simp only[pk])
   go_simp
   repeat(first
    |(go_big_quiet_want;refine qN _ rfl w3.heap.size rfl dg (fun w' hw=>by obtain⟨y,rfl⟩:=hw;exact HN8.out.keep (jF _ _ _) (fun e=>by injection e with e;omega)) ?_;go_simp;go_big_quiet_on)
    |(go_big_quiet_want;refine qN _ rfl w7.heap.size rfl lu (fun w' hw=>by obtain⟨y,rfl⟩:=hw;exact HM8.out.keep (jF _ _ _) (fun e=>by injection e with e;omega)) ?_;go_simp;go_big_quiet_on))
   refine wpQuiet_nil ?_;have H8d:=q9 (H8.out.up (qy w8 1));rw[show w8.drewN 1=w8.drew from rfl]at H8d
   have yZ:=q9 (qG HB8.out HG0.out (fun k e=>by injection e with e;omega))
   generalize w8.drew=w9 at*;unfold qX
   go_wp2_with((with_reducible refine(HS1.out _).mono ?_);rintro e w10 ⟨rfl,hx⟩;have hb:=qn hx;have H10:=q9 (H8d.out.up hb);have yT:=q9 (qr HG0.out (qs hb (some w.heap.size)));have z7:=q9 (yZ.out.trans (hb.mono yZ.out.size));clear hx hb)
   refine⟨a9 yT.out,?_⟩;unfold qX
   go_wp2_with((with_reducible refine(HO2.out _).mono ?_);rintro e w11 ⟨rfl,hx⟩;have hb:=qn hx;have H11:=q9 (H10.out.up hb);have yS:=q9 (qr yT.out (qs hb (some w.heap.size)));have xF:=q9 (z7.out.trans (hb.mono z7.out.size));clear hx hb)
   refine⟨a9 yS.out,?_⟩;unfold qX
   go_wp2_with((with_reducible refine(HO3.out _).mono ?_);rintro e w12 ⟨rfl,hx⟩;have hb:=qn hx;have H12:=q9 (H11.out.up hb);have yR:=q9 (qr yS.out (qs hb (some w.heap.size)));have B4:=q9 (xF.out.trans (hb.mono xF.out.size));clear hx hb)
   refine⟨a9 yR.out,?_⟩;unfold qX
   go_wp2_with(refine qq rfl _ _ rfl w.heap.size rfl _ _ rfl H12.out ?_;intro w13 hB2 hg2;have H13:=q9 hB2;have A8:=q9 (qr yR.out hg2);have B3:=q9 (qG B4.out hg2 (fun k e=>by injection e with e;omega));clear hB2 hg2)
   refine⟨a9 A8.out,?_⟩;unfold qX
   (unfold jQ;simp only[pk])
   repeat(go_big_quiet_step (fail))
   refine wpQuiet_nil ?_;unfold qX;unfold jQ;intro hz8 hz9;clear hz9;go_wp2;refine qI (s:=2) (b:=3) (ad:=⟨w.heap.size,0,none⟩) (x:=qW wrd) (y:=.bool true) rfl rfl rfl rfl H13.out.load ?_
   exact⟨rfl,qv B3.out⟩
  ·have hwn:¬c.toNat=119:=fun e=>hw (UInt8.toNat_inj.1 e)
   rw[if_neg hw];clear hd hw
   go_enter Tryd.func73,Tryd.ntmps73
   go_wp2_with(first
    |((with_reducible refine(HD.out _).mono ?_);rintro e w3 ⟨rfl,hx3⟩;have hb3:=qn hx3;have H3:=q9 (H2.out.up hb3);have vJ:=q9 (HBL.out.trans (hb3.mono HBL.out.size));have HN3:=q9 (HNW.out w3);have hba:=qo w3 (.cells Z 72);have H31:=q9 (H3.out.up hba);have x9:=q9 (vJ.out.trans (hba.mono vJ.out.size));have hs3:w.heap.size<w3.heap.size:=qd (H2.out.lt) hb3.size;clear hx3 hb3 hba)
    |(refine qq rfl _ _ rfl w3.heap.size rfl _ _ rfl HN3.out ?_;intro w4 hB2 hg2;have HN4:=q9 hB2;have HB4:=q9 (qG x9.out hg2 (fun k e=>by injection e with e;omega));have H4:=q9 (H31.out.keep hg2 (fun e=>by injection e with e;omega));clear hB2 hg2)
    |(refine qq rfl _ _ rfl w.heap.size rfl _ 0 HZV.out H4.out ?_;intro w5 hB2 hg2;have H5:=q9 hB2;have HB5:=q9 (qG HB4.out hg2 (fun k e=>by injection e with e;omega));clear hB2 hg2))
   refine qI (s:=2) (b:=3) (ad:=⟨w.heap.size,0,none⟩) (x:=qW 0) (y:=.bool false) rfl rfl rfl rfl H5.out.load ?_
   exact⟨rfl,qv HB5.out⟩
def tN(c:UInt8):Value:=.tuple #[.int .u8 (((kY c).getD c).toNat:Nat),.bool (kY c).isSome]
theorem sP(c:UInt8)(w:World):Calls Tryd.prog 74 #[.int .u8 (c.toNat:Nat)] w fun e w'=>e=.returned (tN c)/\∃x,w'=ext w x:=by
 have HW:Hid (∀W,Calls Tryd.prog 68 #[.string ⟨#[92,91,93,40,41,123,125,42,43,63,124,46,45,94,47,34]⟩,.int .u8 (c.toNat:Nat)] W fun e w'=>e=.returned (.bool (decide (c∈pJ)))/\∃x,w'=ext W x):=q9 (fun W=>lX pJ (by decide) c W)
 have HV:Hid (tN c=.tuple #[.int .u8 (((kY c).getD c).toNat:Nat),.bool (kY c).isSome]):=q9 rfl;rw[HV.out];unfold kY;clear HV
 by_cases h1:c=110
 ·subst h1
  go_enter Tryd.func74,Tryd.ntmps74
  go_wp2
  go_ret2
  exact⟨rfl,(qv (by repeat(first|exact qi _ _|assumption|refine qF ?_ _|refine qj ?_|refine qL ?_ _|refine qx ?_ _)))⟩
 ·by_cases h2:c=116
  ·subst h2
   go_enter Tryd.func74,Tryd.ntmps74
   go_wp2
   go_ret2
   exact⟨rfl,(qv (by repeat(first|exact qi _ _|assumption|refine qF ?_ _|refine qj ?_|refine qL ?_ _|refine qx ?_ _)))⟩
  ·by_cases h3:c=115
   ·subst h3
    go_enter Tryd.func74,Tryd.ntmps74
    go_wp2
    go_ret2
    exact⟨rfl,(qv (by repeat(first|exact qi _ _|assumption|refine qF ?_ _|refine qj ?_|refine qL ?_ _|refine qx ?_ _)))⟩
   ·have k1:¬c.toNat=110:=fun e=>h1 (UInt8.toNat_inj.1 e)
    have k2:¬c.toNat=116:=fun e=>h2 (UInt8.toNat_inj.1 e)
    have k3:¬c.toNat=115:=fun e=>h3 (UInt8.toNat_inj.1 e)
    rw[if_neg h1,if_neg h2,if_neg h3];clear h1 h2 h3;have HM:Hid (((if c∈pJ then some c else none:Option UInt8).getD c).toNat=c.toNat/\(if c∈pJ then some c else none:Option UInt8).isSome=decide (c∈pJ)):=q9 (by split<;>simp[*])
    rw[HM.out.1,HM.out.2];clear HM;generalize decide (c∈pJ)=b at*;generalize c.toNat=n at*
    go_enter Tryd.func74,Tryd.ntmps74
    go_wp2_with((with_reducible refine(HW.out _).mono ?_);rintro e w3 ⟨rfl,x3,rfl⟩)
    go_ret2
    exact⟨rfl,(qv (by repeat(first|exact qi _ _|assumption|refine qF ?_ _|refine qj ?_|refine qL ?_ _|refine qx ?_ _)))⟩
theorem jp.keepP{w w':World}{g b x:Nat}(h:jp w b x)(hg:w.grownBy w' (some g))(hne:g≠b):jp w' b x:=h.keep hg (fun e=>hne (by injection e))
theorem qO.keepP{w w':World}{g b:Nat}{s:ByteArray}{z:PS}(h:qO w g s z)(hg:w.grownBy w' (some b))(hne:b≠g):qO w' g s z:=h.keep hg (fun e=>hne (by injection e))
structure Esc(w0 w:World)(g:Nat)(s:ByteArray)(z:PS)(b x:Nat):Prop where
 box:qO w g s z
 set:jp w b x
 gr:w0.grownBy w (some g)
 lo:w0.heap.size<=b
 gl:g<w0.heap.size
section
variable {w0 w w' : World} {g : Nat} {s : ByteArray} {z : PS} {b x : Nat}
theorem Esc.ext(h:Esc w0 w g s z b x)(hx:∃y,w'=ext w y):Esc w0 w' g s z b x:=
 have hb:=qn hx
 ⟨h.box.up hb,h.set.up hb,qr h.gr (qs hb _),h.lo,h.gl⟩
theorem Esc.below(h:Esc w0 w g s z b x)(hb:Below w.heap.size w w'):Esc w0 w' g s z b x:=
 ⟨h.box.up hb,h.set.up hb,qr h.gr (qs hb _),h.lo,h.gl⟩
theorem Esc.act{z':PS}(h:Esc w0 w g s z b x)(hB:qO w' g s z')(hg:w.grownBy w' (some g)):Esc w0 w' g s z' b x:=
 ⟨hB,h.set.keepP hg (by have:=h.lo;have:=h.gl;omega),qr h.gr hg,h.lo,h.gl⟩
theorem Esc.store{y:Nat}(h:Esc w0 w g s z b x)(hB:jp w' b y)(hg:w.grownBy w' (some b)):Esc w0 w' g s z b y:=
 ⟨h.box.keepP hg (by have:=h.lo;have:=h.gl;omega),hB,aE h.gr hg (fun k e=>by injection e with e;have:=h.lo;omega),h.lo,h.gl⟩
theorem Esc.far{q:Nat}(h:Esc w0 w g s z b x)(hg:w.grownBy w' (some q))(hq:w0.heap.size<=q)(hqb:q≠b):Esc w0 w' g s z b x:=
 ⟨h.box.keepP hg (by have:=h.gl;omega),h.set.keepP hg hqb,aE h.gr hg (fun k e=>by injection e with e;omega),h.lo,h.gl⟩
theorem Esc.inc(h:Esc w0 w g s z b x):Esc w0 (w.setCell ⟨g,1,none⟩ (.int .i64 ((z.p:Int)+1))) g s (qH z) b x:=h.act h.box.inc.1 h.box.inc.2
theorem Esc.inc2(h:Esc w0 w g s (qH z) b x):Esc w0 (w.setCell ⟨g,1,none⟩ (.int .i64 ((z.p:Int)+1+1))) g s (qH (qH z)) b x:=h.act h.box.inc2.1 h.box.inc2.2
end
theorem qO.hex{w:World}{g:Nat}{s:ByteArray}{z:PS}(h:qO w g s (qH (qH z))):qO (w.setCell ⟨g,1,none⟩ (.int .i64 ((z.p:Int)+1+3))) g s ⟨z.p+4,z.e,z.b⟩/\w.grownBy (w.setCell ⟨g,1,none⟩ (.int .i64 ((z.p:Int)+1+3))) (some g):=by
 have:=h.set1 (z.p+4)
 rwa [show(((z.p+4:Nat):Int))=(z.p:Int)+1+3 by omega]at this
theorem sQ:∀h l:Nat,h<16->l<16->bits .or .i64 ((h:Int)*16) (l:Int)=((16*h+l:Nat):Int):=by
 intro h l hh hl;have key:∀h:Fin 16,∀l:Fin 16,bits .or .i64 ((h.val:Int)*16) (l.val:Int)=((16*h.val+l.val:Nat):Int):=by decide+kernel
 exact key ⟨h,hh⟩ ⟨l,hl⟩
theorem oZ{c:UInt8}(h:okD c 16=true):∃n:Nat,n<16/\dgR c=(n:Int):=by
 simp only[okD,Bool.and_eq_true,decide_eq_true_eq]at h
 exact⟨(dgR c).toNat,by omega,by omega⟩
def nC(y:(Nat×Bool)×PS):Value:=.tuple #[qW y.1.1,.bool y.1.2]
theorem qO.c12{w:World}{g:Nat}{s:ByteArray}{z:PS}(h:qO w g s (qH (qH z))):w.cell? ⟨g,1,none⟩=some (.int .i64 ((z.p:Int)+1+1)):=h.c1
theorem uG{w:World}{g:Nat}{s:ByteArray}{z:PS}{c0:UInt8}(h:qO w g s z)(hs:s.size<=1000000)(hc0:nxR (bys s) z=some c0):
  Calls Tryd.prog 66 #[.pointer (some ⟨g,0,none⟩)] w (jM (nC (cF (bys s) z)) g s (cF (bys s) z).2 w):=by
 obtain⟨hz0,hzp,-⟩:=qS hc0;rw[qt]at hzp;have hz:=aD;obtain⟨Z,hZ⟩:∃Z,Z=z4:=⟨_,rfl⟩;rw[<-hZ]at hz;have HZV:Hid (Value.agg Z=qW 0):=q9 (by rw[hZ];rfl)
 have HNW:Hid (∀W:World,jp (W.alloc (.cells Z 72)) W.heap.size 0):=q9 (fun W=>qV W Z hZ)
 have c1:=h.c1;have f1:=h.free 1;have hgl:=h.lt
 have HE0:Hid (Esc w ((w.setCell ⟨g,1,none⟩ (.int .i64 ((z.p:Int)+1))).alloc (.cells Z 72)) g s (qH z) w.heap.size 0):=q9 (by
  obtain⟨hi1,hi2⟩:=h.inc;have hb:=qo (w.setCell ⟨g,1,none⟩ (.int .i64 ((z.p:Int)+1))) (.cells Z 72);have hn:=HNW.out (w.setCell ⟨g,1,none⟩ (.int .i64 ((z.p:Int)+1)));rw[show(w.setCell ⟨g,1,none⟩ (.int .i64 ((z.p:Int)+1))).heap.size=w.heap.size by simp]at hn
  exact⟨hi1.up hb,hn,qr hi2 (qs hb _),qa _,hgl⟩)
 have c11:=HE0.out.box.c11;have HN:Hid (∀W,qO W g s (qH z)->Calls Tryd.prog 30 #[.pointer (some ⟨g,0,none⟩)] W fun e w'=>e=.returned (nxV (nxR (bys s) (qH z)))/\∃x,w'=ext W x):=q9 (fun W h=>nxP h)
 have HF:Hid (∀W y,qO W g s y->Calls Tryd.prog 31 #[.pointer (some ⟨g,0,none⟩),.int .i64 15,.int .i64 ((z.p:Int)+1)] W (jM (.tuple #[]) g s (qC 15 (z.p+1) y) W)):=q9 (fun W y h=>bY h 15 (z.p+1))
 obtain⟨R,hR⟩:∃R,R=cF (bys s) z:=⟨_,rfl⟩;rw[<-hR];clear h hZ hc0 hz0
 cases hn:nxR (bys s) (qH z)with
 |none=>
  have HR:Hid (R=((0,false),qC 15 (z.p+1) (qH z))):=q9 (by rw[hR];unfold cF;rw[hn])
  rw[hn]at HN;unfold nxV at HN;clear hR hn
  go_enter Tryd.func66,Tryd.ntmps66
  go_wp2_with(first
   |((with_reducible refine(HN.out _ HE0.out.box).mono ?_);rintro e w1 ⟨rfl,hx⟩;have HE1:=q9 (HE0.out.ext hx);clear hx)
   |((with_reducible refine(HF.out _ _ HE1.out.box).mono ?_);rintro e w2 ⟨rfl,hB,hg⟩;have HE2:=q9 (HE1.out.act hB hg);clear hB hg)
   |(refine qq rfl _ _ rfl w.heap.size rfl _ 0 HZV.out HE2.out.set ?_;intro w3 hB2 hg2;have HE3:=q9 (HE2.out.store hB2 hg2);clear hB2 hg2))
  refine qI (s:=2) (b:=3) (ad:=⟨w.heap.size,0,none⟩) (x:=qW 0) (y:=.bool false) rfl rfl rfl rfl HE3.out.set.load ?_;rw[HR.out]
  exact⟨rfl,HE3.out.box,HE3.out.gr⟩
 |some c=>
  obtain⟨hz1,wQ,-⟩:=qS hn;rw[qt]at wQ;have B5:z.p+1<s.size:=wQ;have HK:Hid (∀W,Calls Tryd.prog 73 #[.int .u8 (c.toNat:Nat)] W fun e w'=>e=.returned (tM c)/\∃x,w'=ext W x):=q9 (fun W=>sO c W)
  have hR2:R=(match iY c with
   |some a=>((a,true),qH (qH z))
   |none=>match kY c with
    |some b=>((jH b,false),qH (qH z))
    |none=>if c=120 then match nE (bys s) (z.p+1)with
      |some b=>((jH b,false),⟨z.p+4,z.e,z.b⟩)
      |none=>((0,false),qC 15 (z.p+1) (qH (qH z)))
     else((0,false),qC 15 (z.p+1) (qH (qH z)))):=by rw[hR];unfold cF;rw[hn];rfl
  rw[hn]at HN;unfold nxV at HN;unfold tM at HK;clear hR hn hz1 wQ
  cases hk:iY c with
  |some a=>
   rw[hk]at HK hR2;have HR:Hid (R=((a,true),qH (qH z))):=q9 hR2;clear hR2 hk;simp only[Option.getD_some,Option.isSome_some]at HN HK
   go_enter Tryd.func66,Tryd.ntmps66
   go_wp2_with(first
    |((with_reducible refine(HN.out _ HE0.out.box).mono ?_);rintro e w1 ⟨rfl,hx⟩;have HE1:=q9 (HE0.out.ext hx);have c1w:=HE1.out.box.c11;have f1w:=HE1.out.box.free 1;have HI:=q9 HE1.out.inc2;have hlw:=HE1.out.set.lt;clear hx)
    |((with_reducible refine(HK.out _).mono ?_);rintro e w2 ⟨rfl,hx⟩;have HE2:=q9 (HI.out.ext hx);have hba:=qo w2 (.cells Z 72);have HE3:=q9 (HE2.out.below hba);have HN3:=q9 (HNW.out w2);have hs2:=HE2.out.set.lt;clear hx hba)
    |(refine qq rfl _ _ rfl w2.heap.size rfl _ _ rfl HN3.out ?_;intro w3 hB2 hg2;have HE4:=q9 (HE3.out.far hg2 (by omega) (by omega));have HN4:=q9 hB2;clear hB2 hg2)
    |(refine qw rfl _ rfl w2.heap.size rfl _ HN4.out ?_)
    |(refine qq rfl _ _ rfl w.heap.size rfl _ _ rfl HE4.out.set ?_;intro w4 hB2 hg2;have HE5:=q9 (HE4.out.store hB2 hg2);clear hB2 hg2))
   refine qI (s:=2) (b:=3) (ad:=⟨w.heap.size,0,none⟩) (x:=qW a) (y:=.bool true) rfl rfl rfl rfl HE5.out.set.load ?_;rw[HR.out]
   exact⟨rfl,HE5.out.box,HE5.out.gr⟩
  |none=>
   rw[hk]at HK hR2;have HM:Hid (∀W,Calls Tryd.prog 74 #[.int .u8 (c.toNat:Nat)] W fun e w'=>e=.returned (tN c)/\∃x,w'=ext W x):=q9 (fun W=>sP c W)
   unfold tN at HM;simp only[Option.getD_some,Option.isSome_some,Option.getD_none,Option.isSome_none]at HN HK;clear hk
   cases hm:kY c with
   |some b=>
    rw[hm]at HM hR2;have HR:Hid (R=((jH b,false),qH (qH z))):=q9 hR2;have HSI:Hid (∀W,Calls Tryd.prog 71 #[.int .u8 (b.toNat:Nat)] W (qZ (jH b) W)):=q9 (fun W=>bZ b W)
    simp only[Option.getD_some,Option.isSome_some]at HM;clear hR2 hm
    go_enter Tryd.func66,Tryd.ntmps66
    go_wp2_with(first
     |((with_reducible refine(HN.out _ HE0.out.box).mono ?_);rintro e w1 ⟨rfl,hx⟩;have HE1:=q9 (HE0.out.ext hx);have c1w:=HE1.out.box.c11;have f1w:=HE1.out.box.free 1;have HI:=q9 HE1.out.inc2;have hlw:=HE1.out.set.lt;clear hx)
     |((with_reducible refine(HK.out _).mono ?_);rintro e w2 ⟨rfl,hx⟩;have HE2:=q9 (HI.out.ext hx);have hba:=qo w2 (.cells Z 72);have HE3:=q9 (HE2.out.below hba);have HN3:=q9 (HNW.out w2);have hs2:=HE2.out.set.lt;clear hx hba)
     |(refine qq rfl _ _ rfl w2.heap.size rfl _ _ rfl HN3.out ?_;intro w3 hB2 hg2;have HE4:=q9 (HE3.out.far hg2 (by omega) (by omega));have HN4:=q9 hB2;clear hB2 hg2)
     |((with_reducible refine(HM.out _).mono ?_);rintro e w4 ⟨rfl,hx⟩;have HE5:=q9 (HE4.out.ext hx);clear hx)
     |((with_reducible refine(HSI.out _).mono ?_);rintro e w5 ⟨rfl,hx⟩;have HE6:=q9 (HE5.out.ext hx);clear hx)
     |(refine qq rfl _ _ rfl w.heap.size rfl _ _ rfl HE6.out.set ?_;intro w6 hB2 hg2;have HE7:=q9 (HE6.out.store hB2 hg2);clear hB2 hg2))
    refine qI (s:=2) (b:=3) (ad:=⟨w.heap.size,0,none⟩) (x:=qW (jH b)) (y:=.bool false) rfl rfl rfl rfl HE7.out.set.load ?_;rw[HR.out]
    exact⟨rfl,HE7.out.box,HE7.out.gr⟩
   |none=>
    rw[hm]at HM hR2;simp only[Option.getD_none,Option.isSome_none]at HM hR2;clear hm
    by_cases hx:c=120
    ·rw[if_pos hx]at hR2
     have hxb:((c.toNat:Int)==120)=true:=by rw[hx];rfl
     clear hx;have HDD:Hid (∀(d:UInt8) W,Calls Tryd.prog 75 #[.int .u8 (d.toNat:Nat),.int .i64 16] W fun e w'=>e=.returned (dgV d 16)/\∃x,w'=ext W x):=q9 (fun d W=>oX d 16 W)
     by_cases hin:z.p+1+2<s.size
     ·have hx1:∀V:World,(Instr.index 9 (.string s) (.int .i64 ((z.p:Int)+1+1))).run Tryd.prog V=.ok (.int .u8 (((bys s).getD (z.p+1+1) 0).toNat:Nat)) V:=fun V=>jc (P:=Tryd.prog) 9 Tryd.underlying9 (i:=z.p+1+1) (by omega) V
      have hx2:∀V:World,(Instr.index 9 (.string s) (.int .i64 ((z.p:Int)+1+2))).run Tryd.prog V=.ok (.int .u8 (((bys s).getD (z.p+1+2) 0).toNat:Nat)) V:=fun V=>jc (P:=Tryd.prog) 9 Tryd.underlying9 (i:=z.p+1+2) (by omega) V
      have hXR:nE (bys s) (z.p+1)=if okD ((bys s).getD (z.p+1+1) 0) 16=true/\okD ((bys s).getD (z.p+1+2) 0) 16=true then some (UInt8.ofNat (16*(dgR ((bys s).getD (z.p+1+1) 0)).toNat+(dgR ((bys s).getD (z.p+1+2) 0)).toNat))else none:=by
       unfold nE;rw[qt];simp only[hin,true_and]
      rw[hXR]at hR2;clear hXR;generalize (bys s).getD (z.p+1+1) 0=d1 at*;generalize (bys s).getD (z.p+1+2) 0=d2 at*;unfold dgV at HDD
      by_cases hok:okD d1 16=true/\okD d2 16=true
      ·obtain⟨ho1,ho2⟩:=hok
       obtain⟨n1,hn1,hd1⟩:=oZ ho1;obtain⟨n2,hn2,hd2⟩:=oZ ho2;rw[if_pos ⟨ho1,ho2⟩]at hR2;have HR:Hid (R=((jH (UInt8.ofNat (16*n1+n2)),false),⟨z.p+4,z.e,z.b⟩)):=q9 (by rw[hR2,hd1,hd2];rfl)
       have hor:=sQ n1 n2 hn1 hn2
       have HSI:Hid (∀W,Calls Tryd.prog 71 #[.int .u8 (16*(n1:Int)+(n2:Int))] W (qZ (jH (UInt8.ofNat (16*n1+n2))) W)):=q9 (fun W=>by
        have:=bZ (UInt8.ofNat (16*n1+n2)) W
        rwa [show(((UInt8.ofNat (16*n1+n2)).toNat:Nat):Int)=16*(n1:Int)+(n2:Int) by simp;omega]at this)
       generalize jH (UInt8.ofNat (16*n1+n2))=on at*;have HD1:=q9 hd1;have HD2:=q9 hd2;clear hR2 hd1 hd2
       go_enter Tryd.func66,Tryd.ntmps66
       go_wp2_with(first
        |((with_reducible refine(HN.out _ HE0.out.box).mono ?_);rintro e w1 ⟨rfl,hx⟩;have HE1:=q9 (HE0.out.ext hx);have c1w:=HE1.out.box.c11;have f1w:=HE1.out.box.free 1;have HI:=q9 HE1.out.inc2;have hlw:=HE1.out.set.lt;clear hx)
        |((with_reducible refine(HK.out _).mono ?_);rintro e w2 ⟨rfl,hx⟩;have HE2:=q9 (HI.out.ext hx);have hba:=qo w2 (.cells Z 72);have HE3:=q9 (HE2.out.below hba);have HN3:=q9 (HNW.out w2);have hs2:=HE2.out.set.lt;clear hx hba)
        |(refine qq rfl _ _ rfl w2.heap.size rfl _ _ rfl HN3.out ?_;intro w3 hB2 hg2;have HE4:=q9 (HE3.out.far hg2 (by omega) (by omega));have HN4:=q9 hB2;clear hB2 hg2)
        |((with_reducible refine(HM.out _).mono ?_);rintro e w4 ⟨rfl,hx⟩;have HE5:=q9 (HE4.out.ext hx);have cs5:=HE5.out.box.c0;clear hx)
        |((with_reducible refine(HDD.out d1 _).mono ?_);rintro e w6 ⟨rfl,hx⟩;have HE6:=q9 (HE5.out.ext hx);have cs6:=HE6.out.box.c0;clear hx;rw[ho1,HD1.out])
        |((with_reducible refine(HDD.out d2 _).mono ?_);rintro e w7 ⟨rfl,hx⟩;have HE7:=q9 (HE6.out.ext hx);have f17:=HE7.out.box.free 1;have c17:=HE7.out.box.c12;have HH:=q9 (HE7.out.act HE7.out.box.hex.1 HE7.out.box.hex.2);clear hx;rw[ho2,HD2.out])
        |((with_reducible refine(HSI.out _).mono ?_);rintro e w8 ⟨rfl,hx⟩;have HE8:=q9 (HH.out.ext hx);clear hx)
        |(refine qq rfl _ _ rfl w.heap.size rfl _ _ rfl HE8.out.set ?_;intro w9 hB2 hg2;have HE9:=q9 (HE8.out.store hB2 hg2);clear hB2 hg2))
       refine qI (s:=2) (b:=3) (ad:=⟨w.heap.size,0,none⟩) (x:=qW on) (y:=.bool false) rfl rfl rfl rfl HE9.out.set.load ?_;rw[HR.out]
       exact⟨rfl,HE9.out.box,HE9.out.gr⟩
      ·rw[if_neg hok]at hR2
       have HR:Hid (R=((0,false),qC 15 (z.p+1) (qH (qH z)))):=q9 hR2;clear hR2
       have hoo:okD d1 16=false\/okD d1 16=true/\okD d2 16=false:=by
        cases h1:okD d1 16
        ·exact .inl rfl
        ·cases h2:okD d2 16
         ·exact .inr ⟨rfl,rfl⟩
         ·exact absurd ⟨h1,h2⟩ hok
       clear hok;have HD1:=q9 (HDD.out d1);have HD2:=q9 (HDD.out d2);clear HDD;generalize okD d2 16=o2 at*;generalize okD d1 16=o1 at*
       rcases hoo with rfl|⟨rfl,rfl⟩
       all_goals
        go_enter Tryd.func66,Tryd.ntmps66
        go_wp2_with(first
         |((with_reducible refine(HN.out _ HE0.out.box).mono ?_);rintro e w1 ⟨rfl,hx⟩;have HE1:=q9 (HE0.out.ext hx);have c1w:=HE1.out.box.c11;have f1w:=HE1.out.box.free 1;have HI:=q9 HE1.out.inc2;have hlw:=HE1.out.set.lt;clear hx)
         |((with_reducible refine(HK.out _).mono ?_);rintro e w2 ⟨rfl,hx⟩;have HE2:=q9 (HI.out.ext hx);have hba:=qo w2 (.cells Z 72);have HE3:=q9 (HE2.out.below hba);have HN3:=q9 (HNW.out w2);have hs2:=HE2.out.set.lt;clear hx hba)
         |(refine qq rfl _ _ rfl w2.heap.size rfl _ _ rfl HN3.out ?_;intro w3 hB2 hg2;have HE4:=q9 (HE3.out.far hg2 (by omega) (by omega));have HN4:=q9 hB2;clear hB2 hg2)
         |((with_reducible refine(HM.out _).mono ?_);rintro e w4 ⟨rfl,hx⟩;have HE5:=q9 (HE4.out.ext hx);have cs5:=HE5.out.box.c0;clear hx)
         |((with_reducible refine(HD1.out _).mono ?_);rintro e w6 ⟨rfl,hx⟩;have HE6:=q9 (HE5.out.ext hx);have cs6:=HE6.out.box.c0;clear hx)
         |((with_reducible refine(HD2.out _).mono ?_);rintro e w7 ⟨rfl,hx⟩;have HE7:=q9 (HE6.out.ext hx);clear hx)
         |((with_reducible refine(HF.out _ _ HE7.out.box).mono ?_);rintro e w8 ⟨rfl,hB,hg⟩;have HE8:=q9 (HE7.out.act hB hg);clear hB hg)
         |(refine qq rfl _ _ rfl w.heap.size rfl _ 0 HZV.out HE8.out.set ?_;intro w9 hB2 hg2;have HE9:=q9 (HE8.out.store hB2 hg2);clear hB2 hg2))
        refine qI (s:=2) (b:=3) (ad:=⟨w.heap.size,0,none⟩) (x:=qW 0) (y:=.bool false) rfl rfl rfl rfl HE9.out.set.load ?_;rw[HR.out]
        exact⟨rfl,HE9.out.box,HE9.out.gr⟩
     ·have HR:Hid (R=((0,false),qC 15 (z.p+1) (qH (qH z)))):=q9 (by
       have hXR:nE (bys s) (z.p+1)=none:=by unfold nE;rw[qt,if_neg (fun h=>hin h.1)]
       rw[hR2,hXR])
      clear hR2;have C4:¬(z.p:Int)+1+2<(s.size:Int):=by omega
      go_enter Tryd.func66,Tryd.ntmps66
      go_wp2_with(first
        |((with_reducible refine(HN.out _ HE0.out.box).mono ?_);rintro e w1 ⟨rfl,hx⟩;have HE1:=q9 (HE0.out.ext hx);have c1w:=HE1.out.box.c11;have f1w:=HE1.out.box.free 1;have HI:=q9 HE1.out.inc2;have hlw:=HE1.out.set.lt;clear hx)
        |((with_reducible refine(HK.out _).mono ?_);rintro e w2 ⟨rfl,hx⟩;have HE2:=q9 (HI.out.ext hx);have hba:=qo w2 (.cells Z 72);have HE3:=q9 (HE2.out.below hba);have HN3:=q9 (HNW.out w2);have hs2:=HE2.out.set.lt;clear hx hba)
        |(refine qq rfl _ _ rfl w2.heap.size rfl _ _ rfl HN3.out ?_;intro w3 hB2 hg2;have HE4:=q9 (HE3.out.far hg2 (by omega) (by omega));have HN4:=q9 hB2;clear hB2 hg2)
        |((with_reducible refine(HM.out _).mono ?_);rintro e w4 ⟨rfl,hx⟩;have HE5:=q9 (HE4.out.ext hx);have cs5:=HE5.out.box.c0;clear hx)
        |((with_reducible refine(HF.out _ _ HE5.out.box).mono ?_);rintro e w5 ⟨rfl,hB,hg⟩;have HE6:=q9 (HE5.out.act hB hg);clear hB hg)
        |(refine qq rfl _ _ rfl w.heap.size rfl _ 0 HZV.out HE6.out.set ?_;intro w6 hB2 hg2;have HE7:=q9 (HE6.out.store hB2 hg2);clear hB2 hg2))
      refine qI (s:=2) (b:=3) (ad:=⟨w.heap.size,0,none⟩) (x:=qW 0) (y:=.bool false) rfl rfl rfl rfl HE7.out.set.load ?_;rw[HR.out]
      exact⟨rfl,HE7.out.box,HE7.out.gr⟩
    ·rw[if_neg hx]at hR2
     have HR:Hid (R=((0,false),qC 15 (z.p+1) (qH (qH z)))):=q9 hR2;have hxn:¬c.toNat=120:=fun e=>hx (UInt8.toNat_inj.1 e)
     clear hR2 hx
     go_enter Tryd.func66,Tryd.ntmps66
     go_wp2_with(first
      |((with_reducible refine(HN.out _ HE0.out.box).mono ?_);rintro e w1 ⟨rfl,hx⟩;have HE1:=q9 (HE0.out.ext hx);have c1w:=HE1.out.box.c11;have f1w:=HE1.out.box.free 1;have HI:=q9 HE1.out.inc2;have hlw:=HE1.out.set.lt;clear hx)
      |((with_reducible refine(HK.out _).mono ?_);rintro e w2 ⟨rfl,hx⟩;have HE2:=q9 (HI.out.ext hx);have hba:=qo w2 (.cells Z 72);have HE3:=q9 (HE2.out.below hba);have HN3:=q9 (HNW.out w2);have hs2:=HE2.out.set.lt;clear hx hba)
      |(refine qq rfl _ _ rfl w2.heap.size rfl _ _ rfl HN3.out ?_;intro w3 hB2 hg2;have HE4:=q9 (HE3.out.far hg2 (by omega) (by omega));have HN4:=q9 hB2;clear hB2 hg2)
      |((with_reducible refine(HM.out _).mono ?_);rintro e w4 ⟨rfl,hx⟩;have HE5:=q9 (HE4.out.ext hx);clear hx)
      |((with_reducible refine(HF.out _ _ HE5.out.box).mono ?_);rintro e w5 ⟨rfl,hB,hg⟩;have HE6:=q9 (HE5.out.act hB hg);clear hB hg)
      |(refine qq rfl _ _ rfl w.heap.size rfl _ 0 HZV.out HE6.out.set ?_;intro w6 hB2 hg2;have HE7:=q9 (HE6.out.store hB2 hg2);clear hB2 hg2))
     refine qI (s:=2) (b:=3) (ad:=⟨w.heap.size,0,none⟩) (x:=qW 0) (y:=.bool false) rfl rfl rfl rfl HE7.out.set.load ?_;rw[HR.out]
     exact⟨rfl,HE7.out.box,HE7.out.gr⟩
theorem uH{w:World}{g:Nat}{s:ByteArray}{z:PS}(h:qO w g s z)(hs:s.size<=1000000):
  Calls Tryd.prog 82 #[.pointer (some ⟨g,0,none⟩)] w (jM (nC (jZ (bys s) z)) g s (jZ (bys s) z).2 w):=by
 have hz:=aD;obtain⟨Z,hZ⟩:∃Z,Z=z4:=⟨_,rfl⟩;rw[<-hZ]at hz;have HZV:Hid (Value.agg Z=qW 0):=q9 (by rw[hZ];rfl)
 have HE0:Hid (Esc w (w.alloc (.cells Z 72)) g s z w.heap.size 0):=q9 ⟨h.up (qo _ _),qV w Z hZ,qs (qo _ _) _,qa _,h.lt⟩;have HN:Hid (∀W,qO W g s z->Calls Tryd.prog 30 #[.pointer (some ⟨g,0,none⟩)] W fun e w'=>e=.returned (nxV (nxR (bys s) z))/\∃x,w'=ext W x):=q9 (fun W h=>nxP h)
 have HF:Hid (∀W,qO W g s z->Calls Tryd.prog 31 #[.pointer (some ⟨g,0,none⟩),.int .i64 15,.int .i64 z.p] W (jM (.tuple #[]) g s (qC 15 z.p z) W)):=q9 (fun W h=>bY h 15 z.p)
 obtain⟨R,hR⟩:∃R,R=jZ (bys s) z:=⟨_,rfl⟩;rw[<-hR];clear h hZ
 cases hn:nxR (bys s) z with
 |none=>
  have HR:Hid (R=((0,false),qC 15 z.p z)):=q9 (by rw[hR];unfold jZ;rw[hn])
  rw[hn]at HN;unfold nxV at HN;clear hR hn
  go_enter Tryd.func82,Tryd.ntmps82
  go_wp2_with(first
   |((with_reducible refine(HN.out _ HE0.out.box).mono ?_);rintro e w1 ⟨rfl,hx⟩;have HE1:=q9 (HE0.out.ext hx);have c1:=HE1.out.box.c1;clear hx)
   |((with_reducible refine(HF.out _ HE1.out.box).mono ?_);rintro e w2 ⟨rfl,hB,hg⟩;have HE2:=q9 (HE1.out.act hB hg);clear hB hg)
   |(refine qq rfl _ _ rfl w.heap.size rfl _ 0 HZV.out HE2.out.set ?_;intro w3 hB2 hg2;have HE3:=q9 (HE2.out.store hB2 hg2);clear hB2 hg2))
  refine qI (s:=2) (b:=3) (ad:=⟨w.heap.size,0,none⟩) (x:=qW 0) (y:=.bool false) rfl rfl rfl rfl HE3.out.set.load ?_;rw[HR.out]
  exact⟨rfl,HE3.out.box,HE3.out.gr⟩
 |some c=>
  obtain⟨hz0,hzp,-⟩:=qS hn;rw[qt]at hzp;have hR2:R=if c=92 then cF (bys s) z else if c=45 then((0,false),qC 15 z.p z)else((jH c,false),qH z):=by rw[hR];unfold jZ;rw[hn]
  have HES:Hid (∀W,qO W g s z->Calls Tryd.prog 66 #[.pointer (some ⟨g,0,none⟩)] W (jM (nC (cF (bys s) z)) g s (cF (bys s) z).2 W)):=q9 (fun W h=>uG h hs hn)
  rw[hn]at HN;unfold nxV at HN;simp only[Option.getD_some,Option.isSome_some]at HN;clear hR hn hz0
  by_cases h1:c=92
  ·rw[if_pos h1]at hR2
   have HR:=q9 hR2;have hcb:((c.toNat:Int)==92)=true:=by rw[h1];rfl
   unfold nC at HES;generalize cF (bys s) z=E at*;obtain⟨⟨a,b⟩,z1⟩:=E;simp only at HES;clear hR2 h1
   go_enter Tryd.func82,Tryd.ntmps82
   go_wp2_with(first
    |((with_reducible refine(HN.out _ HE0.out.box).mono ?_);rintro e w1 ⟨rfl,hx⟩;have HE1:=q9 (HE0.out.ext hx);clear hx)
    |((with_reducible refine(HES.out _ HE1.out.box).mono ?_);rintro e w2 ⟨rfl,hB,hg⟩;have HE2:=q9 (HE1.out.act hB hg);clear hB hg)
    |(refine qq rfl _ _ rfl w.heap.size rfl _ a rfl HE2.out.set ?_;intro w3 hB2 hg2;have HE3:=q9 (HE2.out.store hB2 hg2);clear hB2 hg2))
   refine qI (s:=2) (b:=3) (ad:=⟨w.heap.size,0,none⟩) (x:=qW a) (y:=.bool b) rfl rfl rfl rfl HE3.out.set.load ?_;rw[HR.out]
   exact⟨rfl,HE3.out.box,HE3.out.gr⟩
  ·rw[if_neg h1]at hR2
   have k1:¬c.toNat=92:=fun e=>h1 (UInt8.toNat_inj.1 e)
   clear h1 HES
   by_cases h2:c=45
   ·rw[if_pos h2]at hR2
    have HR:=q9 hR2;have hcb:((c.toNat:Int)==45)=true:=by rw[h2];rfl
    clear hR2 h2
    go_enter Tryd.func82,Tryd.ntmps82
    go_wp2_with(first
     |((with_reducible refine(HN.out _ HE0.out.box).mono ?_);rintro e w1 ⟨rfl,hx⟩;have HE1:=q9 (HE0.out.ext hx);have c1:=HE1.out.box.c1;clear hx)
     |((with_reducible refine(HF.out _ HE1.out.box).mono ?_);rintro e w2 ⟨rfl,hB,hg⟩;have HE2:=q9 (HE1.out.act hB hg);clear hB hg)
     |(refine qq rfl _ _ rfl w.heap.size rfl _ 0 HZV.out HE2.out.set ?_;intro w3 hB2 hg2;have HE3:=q9 (HE2.out.store hB2 hg2);clear hB2 hg2))
    refine qI (s:=2) (b:=3) (ad:=⟨w.heap.size,0,none⟩) (x:=qW 0) (y:=.bool false) rfl rfl rfl rfl HE3.out.set.load ?_;rw[HR.out]
    exact⟨rfl,HE3.out.box,HE3.out.gr⟩
   ·rw[if_neg h2]at hR2
    have HR:=q9 hR2;have k2:¬c.toNat=45:=fun e=>h2 (UInt8.toNat_inj.1 e)
    have HSI:Hid (∀W,Calls Tryd.prog 71 #[.int .u8 (c.toNat:Nat)] W (qZ (jH c) W)):=q9 (fun W=>bZ c W)
    generalize jH c=on at*;clear hR2 h2 HF
    go_enter Tryd.func82,Tryd.ntmps82
    go_wp2_with(first
     |((with_reducible refine(HN.out _ HE0.out.box).mono ?_);rintro e w1 ⟨rfl,hx⟩;have HE1:=q9 (HE0.out.ext hx);have c1:=HE1.out.box.c1;have f1:=HE1.out.box.free 1;have HI:=q9 HE1.out.inc;clear hx)
     |((with_reducible refine(HSI.out _).mono ?_);rintro e w2 ⟨rfl,hx⟩;have HE2:=q9 (HI.out.ext hx);clear hx)
     |(refine qq rfl _ _ rfl w.heap.size rfl _ on rfl HE2.out.set ?_;intro w3 hB2 hg2;have HE3:=q9 (HE2.out.store hB2 hg2);clear hB2 hg2))
    refine qI (s:=2) (b:=3) (ad:=⟨w.heap.size,0,none⟩) (x:=qW on) (y:=.bool false) rfl rfl rfl rfl HE3.out.set.load ?_;rw[HR.out]
    exact⟨rfl,HE3.out.box,HE3.out.gr⟩
def jn(w:World):Prop:=∀j,j<64->w.cell? ⟨6,j,none⟩=some (.int .u8 (Lib.deBruijn64tab.getD j 0))
theorem jn.lt{w:World}(h:jn w):6<w.heap.size:=by
 rcases Nat.lt_or_ge 6 w.heap.size with h1|h1
 ·exact h1
 ·have:=h 0 (by decide)
  simp[World.cell?,Array.getElem?_eq_none h1]at this
theorem jn.up{w w':World}(h:jn w)(hb:Below w.heap.size w w'):jn w':=fun j hj=>by
 rw[hb.cell (p:=⟨6,j,none⟩) h.lt];exact h j hj
theorem jn.fx{w w':World}{row:Option Nat}(h:jn w)(hg:w.grownBy w' row)(hr:row≠some 6):jn w':=fun j hj=>by
 have:=h j hj;rw[World.cell?_of_block (w:=w) (hg.block _ h.lt (fun e=>hr e.symm))];exact this
theorem pZ(x a:Nat)(hx:x<18446744073709551616)(hx0:x≠0)(xL:x&&&(18446744073709551616-x)=a):
  IntKind.u64.wrap (bits .and .u64 (x:Int) (IntKind.u64.wrap (-(x:Int)))*285870213051353865)/288230376151711744=((a*285870213051353865%18446744073709551616/288230376151711744:Nat):Int):=by
 have e1:IntKind.u64.wrap (-(x:Int))=((18446744073709551616-x:Nat):Int):=by rw[IntKind.wrap_u64];omega
 rw[e1,bits_and_u64_nat x _ hx (by omega),xL,IntKind.wrap_u64]
 omega
theorem r0(x k idx:Nat)(w:World)(hx0:((x:Int)==0)=false)
  (key:IntKind.u64.wrap (bits .and .u64 (x:Int) (IntKind.u64.wrap (-(x:Int)))*285870213051353865)/288230376151711744=(idx:Int))
  (hi:idx<64) (hk:k<64) (hcell:w.cell? ⟨6,idx,none⟩=some (.int .u8 k)):
  Calls Tryd.prog 84 #[.int .u64 x] w fun e w'=>e=.returned (.int .i64 k)/\∃y,w'=ext w y:=by
 go_enter Tryd.func84,Tryd.ntmps84
 go_wp2_with(simp only[key])
 go_ret
 exact⟨rfl,(qv (by repeat(first|exact qi _ _|assumption|refine qF ?_ _|refine qj ?_|refine qL ?_ _|refine qx ?_ _)))⟩
theorem tzP{x:Nat}(hx:x<18446744073709551616)(hx0:x≠0){w:World}(hT:jn w):Calls Tryd.prog 84 #[.int .u64 x] w fun e w'=>e=.returned (.int .i64 (Lib.ctz 64 x:Nat))/\∃y,w'=ext w y:=by
 obtain⟨xL,hk⟩:=Lib.lowest_bit 64 x hx0 hx;obtain⟨hi,zC⟩:=Lib.deBruijn64_at _ hk;have hcell:=hT _ hi;rw[zC]at hcell
 exact r0 x _ _ w (by simp;omega) (pZ x _ hx hx0 xL) hi hk hcell
def wbL(i y:Nat):qM:=((List.range 64).filter y.testBit).map fun j=>UInt8.ofNat (64*i+j)
def kV(x:Nat):qM:=(List.range 4).flatMap fun i=>wbL i (wdR x i)
def nV(x k:Nat):qM:=(List.range k).flatMap fun i=>wbL i (wdR x i)
theorem fT(x k:Nat):nV x (k+1)=nV x k++wbL k (wdR x k):=by
 unfold nV;rw[List.range_succ,List.flatMap_append];simp
theorem iK(i:Nat):wbL i 0=[]:=by
 unfold wbL;rw[List.filter_eq_nil_iff.2 (fun j _=>by simp)];rfl
theorem p8(i y:Nat):(wbL i y).length<=64:=by
 unfold wbL;rw[List.length_map]
 exact qb (List.length_filter_le _ _) (by simp)
theorem iL(x:Nat):∀k,(nV x k).length<=64*k
 |0=>by simp[nV]
 |k+1=>by
  rw[fT,qg];have:=iL x k;have:=p8 k (wdR x k);omega
theorem iM{y:Nat}(h0:y≠0)(hy:y<2^64):Lib.ctz 64 y<64/\y.testBit (Lib.ctz 64 y)=true/\(∀j,j<Lib.ctz 64 y->y.testBit j=false)/\(∀j,(y&&&(y-1)).testBit j=(y.testBit j&&decide (j≠Lib.ctz 64 y)))/\y&&&(y-1)<y:=by
 obtain⟨m,hm,hk⟩:=Lib.ctzFrom_spec 64 y (by omega) hy
 have e:Lib.ctz 64 y=Lib.ctzFrom 64 y:=by simp[Lib.ctz,h0]
 rw[e];generalize Lib.ctzFrom 64 y=k at*;subst hm
 have tb:∀j,(2^k*(2*m+1)).testBit j=(decide (k<=j)&&(2*m+1).testBit (j-k)):=fun j=>by
  rw[Nat.mul_comm,Nat.testBit_mul_two_pow]
 have hp:=Nat.two_pow_pos k
 have tb2:∀j,(2^k*(2*m+1)-1).testBit j=if j<k then true else(2*m).testBit (j-k):=fun j=>by
  have e2:2^k*(2*m+1)-1=2^k*(2*m)+(2^k-1):=by rw[Nat.mul_add];omega
  rw[e2,Nat.testBit_two_pow_mul_add _ (by omega)]
  split
  ·rename_i h;rw[Nat.testBit_two_pow_sub_one];simpa using h
  ·rfl
 refine⟨hk,by rw[tb];simp,fun j hj=>by rw[tb,decide_eq_false (by omega)];rfl,fun j=>?_,Nat.lt_of_le_of_lt Nat.and_le_right (by omega)⟩
 rw[Nat.testBit_and,tb,tb2]
 by_cases h1:j<k
 ·rw[decide_eq_false (by omega)];simp
 ·rw[if_neg h1,decide_eq_true (show k<=j by omega)]
  by_cases h2:j=k
  ·subst h2;simp
  ·obtain⟨n,rfl⟩:∃n,j=k+(n+1):=⟨j-k-1,by omega⟩
   rw[show k+(n+1)-k=n+1 by omega,Nat.testBit_succ,Nat.testBit_succ,decide_eq_true h2,show(2*m+1)/2=m by omega,show 2*m/2=m by omega]
   simp
theorem e8{p q:Nat->Bool}:∀(n s k:Nat),s<=k->k<s+n->p k=true->(∀j,j<k->p j=false)->(∀j,q j=(p j&&decide (j≠k)))->(List.range' s n).filter p=k::(List.range' s n).filter q
 |0,s,k,h1,h2,_,_,_=>absurd h2 (by omega)
 |n+1,s,k,h1,h2,hp,hl,hq=>by
  rw[List.range'_succ]
  by_cases h:s=k
  ·subst h
   rw[List.filter_cons_of_pos hp,List.filter_cons_of_neg (by rw[hq];simp)]
   congr 1
   refine List.filter_congr fun j hj=>?_
   rw[hq,decide_eq_true (by have:=(List.mem_range'_1.1 hj).1;omega),Bool.and_true]
  ·rw[List.filter_cons_of_neg (by rw[hl s (by omega)];simp),List.filter_cons_of_neg (by rw[hq,hl s (by omega)];simp)]
   exact e8 n (s+1) k (by omega) (by omega) hp hl hq
theorem nW{i y:Nat}(h0:y≠0)(hy:y<2^64):wbL i y=UInt8.ofNat (64*i+Lib.ctz 64 y)::wbL i (y&&&(y-1)):=by
 obtain⟨h1,h2,h3,h4,-⟩:=iM h0 hy;unfold wbL;rw[List.range_eq_range',e8 64 0 _ (qc _) (by omega) h2 h3 h4,List.map_cons]
theorem r6:∀c:Fin 256,kV (jH (UInt8.ofFin c))=[UInt8.ofFin c]:=by decide+kernel
theorem iN(c:UInt8):kV (jH c)=[c]:=r6 c.toFin
theorem nX(n:Nat)(h:n<256):[Value.int .u8 (n:Int)]=qT [UInt8.ofNat n]:=by
 simp[qT];omega
theorem nY{y:Nat}(h0:y≠0)(hy:y<18446744073709551616):bits .and .u64 (y:Int) ((y:Int)-1)=((y&&&(y-1):Nat):Int):=by
 rw[show((y:Int)-1)=((y-1:Nat):Int) by omega,bits_and_u64_nat _ _ hy (by omega)]
theorem eR{B:Array Value}{i:Nat}{y:Int}(hi:i<4)(h:B[i]? =some (.int .u64 y))(W:World):(Instr.index 72 (.agg B) (.int .i64 (i:Int))).run Tryd.prog W=.ok (.int .u64 y) W:=by
 have h1:(sizeOf 70).run Tryd.prog W=.ok 1 W:=by kernel_rfl
 have h2:(isAgg 70).run Tryd.prog W=.ok false W:=by kernel_rfl
 have h3:(0:Int)<=i/\(i:Int)<4:=by omega
 simp[Instr.index,asIntOf,run_underlying Tryd.underlying72,h3,part,h1,h2,Result.andThen,h,show¬4<=i from by omega]
theorem p9 {x : Nat} (hx : x < 2 ^ 256) {w : World} (hT : jn w) : Calls Tryd.prog 83 #[qW x] w fun e w' => e = .returned (.string ⟨(kV x).toArray⟩) ∧ ∃ y, w' = ext w y := by
  obtain ⟨X, hX⟩ : ∃ X, X = (wsV x).toArray := ⟨_, rfl⟩
  have hb0 : jp (w.alloc (.cells X 72)) w.heap.size x := by rw [hX]; exact jB w x
  have HB0 := q9 hb0
  have HT := q9 hT
  have hc : ∀ W, (binOp .eql 72 (.agg X) (.agg #[.int .u64 0, .int .u64 0, .int .u64 0, .int .u64 0])).run Tryd.prog W = .ok (.bool (decide (x = 0))) W := fun W => by
    have := lF W (wdR x 0 : Nat) (wdR x 1 : Nat) (wdR x 2 : Nat) (wdR x 3 : Nat) 0 0 0 0
    rw [hX]
    refine Eq.trans this ?_
    congr 2
    refine decide_eq_decide.2 ⟨fun h => ?_, fun h => by subst h; simp [d9]⟩
    refine oV hx (by decide) fun i hi => ?_
    rw [d9]
    obtain rfl | rfl | rfl | rfl : i = 0 ∨ i = 1 ∨ i = 2 ∨ i = 3 := by omega
    all_goals omega
  have hg := b6
  have y7 : Hid (∀ k, k < 4 → X[k]? = some (.int .u64 (wdR x k : Nat))) := q9 (fun k hk => by
    rw [hX]; simpa using eQ x hk)
  have HS : Hid (qW x = .agg X) := q9 (by rw [hX]; rfl)
  rw [HS.out]
  clear hb0 hT hX
  by_cases h0 : x = 0
  · subst h0
    simp only [decide_true] at hc
    have HE : Hid (kV 0 = []) := q9 (by unfold kV; simp [d9, iK])
    go_enter Tryd.func83, Tryd.ntmps83
    go_wp2_with (refine qw rfl _ rfl w.heap.size rfl _ HB0.out ?_; rw [HS.out])
    go_ret
    exact ⟨by rw [HE.out]; rfl, (qv (by repeat (first | exact qi _ _ | assumption | refine qF ?_ _ | refine qj ?_ | refine qL ?_ _ | refine qx ?_ _)))⟩
  · simp only [h0, decide_false] at hc
    have HB1 : Hid (Below w.heap.size w (w.alloc (.cells X 72))) := q9 (qo _ _)
    go_enter Tryd.func83, Tryd.ntmps83
    go_wp2_with (refine qw rfl _ rfl w.heap.size rfl _ HB0.out ?_; rw [HS.out])
    go_loopg [3, 10] 5 (fun gk vb iv wr => ∃ k : Nat, k ≤ 4 ∧ iv = .int .i64 k ∧ Own wr w.heap.size 5 vb (qT (nV x k)) ∧ Below w.heap.size w wr ∧ gk = 5 - k)
    case atStart => exact ⟨0, by omega, rfl, Own.nil _ _ _, HB1.out, rfl⟩
    case round =>
      obtain ⟨k, hk, rfl, hown, vH, rfl⟩ := hrel
      have HO := q9 hown
      have HB := q9 vH
      clear hown vH
      by_cases hlt : k < 4
      · have hcell := y7.out k hlt
        have hix := eR hlt hcell
        have HBK := q9 (fT x k)
        have HPL := q9 (iL x k)
        have HWL := q9 (gZ x k)
        have z8 := gZ x k
        generalize wdR x k = y0 at *
        generalize nV x k = pre at *
        clear hcell z8
        go_wp2
        rw [show decide ((k : Int) < 4) = true from decide_eq_true (by omega)]
        generalize wr = wo at *
        go_loopg [3, 5] (y0 + 1) (fun gk vb iv wr => ∃ (y : Nat) (q : qM), y < 18446744073709551616 ∧ iv = .int .u64 y ∧ Own wr w.heap.size 5 vb (qT (pre ++ q)) ∧ Hid (q ++ wbL k y = wbL k y0) ∧ Below w.heap.size w wr ∧ gk = y + 1)
        case atStart => exact ⟨y0, [], HWL.out, rfl, by rw [List.append_nil]; exact HO.out, q9 rfl, HB.out, rfl⟩
        case round =>
          clear HO HB
          obtain ⟨y, q, hy, rfl, hown, HQ, vH, rfl⟩ := hrel
          have HO := q9 hown
          have HB := q9 vH
          clear hown vH
          by_cases hy0 : y = 0
          · subst hy0
            have HE2 : Hid (pre ++ q = nV x (k + 1)) := q9 (by
              have := HQ.out
              rw [iK, List.append_nil] at this
              rw [HBK.out, this])
            rw [HE2.out] at HO
            clear HE2 HQ
            go_wp2
            go_roundg (4 - k)
            case measure => omega
            case rel => exact ⟨k + 1, by omega, by go_num, HO.out, HB.out, by omega⟩
          · have hne : ((y : Int) != 0) = true := by simp; omega
            obtain ⟨C2, -, -, -, C1⟩ := iM hy0 hy
            have HTZ := q9 (tzP hy hy0 (HT.out.up (HB.out)))
            have HST := q9 (nW (i := k) hy0 hy)
            have HAP := q9 (nY hy0 hy)
            have HQ2 : Hid ((q ++ [UInt8.ofNat (64 * k + Lib.ctz 64 y)]) ++ wbL k (y &&& (y - 1)) = wbL k y0) := q9 (by rw [← HQ.out, HST.out, qh]; rfl)
            have HQL : Hid ((qT (pre ++ q)).length ≤ 1000) := q9 (by
              have h1 := congrArg List.length HQ.out
              have h2 := p8 k y0
              have h3 := HPL.out
              rw [qg] at h1
              rw [qR, qg]; omega)
            generalize Lib.ctz 64 y = c at *
            generalize y &&& (y - 1) = y2 at *
            have HBV : Hid (qT (pre ++ (q ++ [UInt8.ofNat (64 * k + c)])) = qT (pre ++ q) ++ [Value.int .u8 ((k : Int) * 64 + (c : Int))]) := q9 (by
              rw [← qh, eC, ← nX _ (by omega)]
              congr 2
              rw [show ((64 * k + c : Nat) : Int) = (k : Int) * 64 + (c : Int) by omega])
            generalize qT (pre ++ q) = bs at *
            clear HST hc
            go_wp2_with (first
              | ((with_reducible refine HTZ.out.mono ?_); rintro e w3 ⟨rfl, hx3⟩; have hb3 := qn hx3; have HO3 := q9 (HO.out.up hb3); have HB3 := q9 (HB.out.trans (hb3.mono HB.out.size)); clear hx3 hb3
                 have hlW := q9 (qo w3 (.cells #[.int .u8 ((k : Int) * 64 + (c : Int))] 5))
                 have HX : Hid (Sl (w3.alloc (.cells #[.int .u8 ((k : Int) * 64 + (c : Int))] 5)) (.slice (some ⟨w3.heap.size, 0, none⟩) 1 1) [.int .u8 ((k : Int) * 64 + (c : Int))]) := q9 (by simpa using dW w3 #[.int .u8 ((k : Int) * 64 + (c : Int))] 5 (by simp))
                 have HT1 := q9 (HO3.out.up hlW.out)
                 have HT3 : Hid (bs.length + [Value.int .u8 ((k : Int) * 64 + (c : Int))].length ≤ 4294967296) := q9 (by have := HQL.out; simp; omega)
                 have HT4 : Hid (w.heap.size ≤ (w3.alloc (.cells #[.int .u8 ((k : Int) * 64 + (c : Int))] 5)).heap.size) := q9 (qb HB3.out.size hlW.out.size))
              | (at_builtin; refine jG rfl (.tmp 20) (.tmp 27) 97 rfl w.heap.size 5 (.int .u8 0) 1 Tryd.underlying97 (by kernel_rfl) rfl (by decide) u3 bs rfl HT1.out (.slice (some ⟨w3.heap.size, 0, none⟩) 1 1) [.int .u8 ((k : Int) * 64 + (c : Int))] rfl HX.out (by intro u hu; simp only [List.mem_singleton] at hu; subst hu; rfl) HT3.out HT4.out ?_; intro v' w5 hown1 hg1 hk1; have HO5 := q9 hown1; have HG1 := q9 hg1; clear hown1 hg1 hk1; have HB5 := q9 (cZ (HB3.out.trans (hlW.out.mono HB3.out.size)) HT4.out HT1.out HG1.out)))
            go_roundg (y2 + 1)
            case measure => omega
            case rel => exact ⟨y2, q ++ [UInt8.ofNat (64 * k + c)], by omega, by rw [HAP.out], by rw [HBV.out]; exact HO5.out, HQ2, HB5.out, rfl⟩
      · obtain rfl : k = 4 := by omega
        have hcv := jX (P := Tryd.prog) wr 97 9 5 Tryd.underlying97 Tryd.underlying5 Tryd.underlying9 u3 _ HO.out.sl
        have HE : Hid (kV x = nV x 4) := q9 rfl
        go_wp2
        go_ret
        rw [HE.out]
        exact ⟨rfl, qv HB.out⟩
theorem jn.ne{w:World}{g:Nat}{s:ByteArray}{z:PS}(h:jn w)(hB:qO w g s z):g≠6:=by
 intro e;have h0:=h 0 (by decide)
 have h1:=hB.c0;rw[e,h0]at h1
 cases h1
theorem tP:(0:Nat)<2^256:=Nat.two_pow_pos 256
theorem sR:sB<2^256:=jA (fR _) (jA iI (jA iJ nU))
theorem r7{c:UInt8}{a:Nat}(h:iY c=some a):a<2^256:=by
 have hd:=iI;have hw:=sR;unfold iY at h;generalize kX=d at*;generalize sB=w at*;generalize 2^256=M at*;split at h
 ·rw[<-qk h];exact hd
 ·split at h
  ·rw[<-qk h];exact hw
  ·cases h
theorem sS(s:qM)(z:PS):(cF s z).1.1<2^256:=by
 have hk:=fun c a=>@r7 c a
 have ho:=fR;have hz:=tP;unfold cF;generalize 2^256=M at*
 cases nxR s (qH z)with
 |none=>exact hz
 |some c=>
  simp only
  cases hk2:iY c with
  |some a=>exact hk c a hk2
  |none=>
   simp only
   cases kY c with
   |some b=>have h1:=ho b;dsimp only;exact h1
   |none=>
    simp only;split
    ·split
     ·rename_i b _;have h1:=ho b;generalize jH b=x at*;exact h1
     ·exact hz
    ·exact hz
theorem lY(s:qM)(z:PS):(jZ s z).1.1<2^256:=by
 have he:=sS s z;have ho:=fR;have hz:=tP;unfold jZ;generalize 2^256=M at*
 cases nxR s z with
 |none=>exact hz
 |some c=>
  simp only;split
  ·exact he
  ·split
   ·exact hz
   ·have h1:=ho c;generalize jH c=x at*;exact h1
theorem r8{s:qM}{z:PS}(h:(cF s z).2.e=0)(hk:(cF s z).1.2=false):∃c,(cF s z).1.1=jH c:=by
 unfold cF at h hk⊢
 cases hn:nxR s (qH z)with
 |none=>rw[hn]at h;exact absurd h (ju _ (by decide))
 |some c=>
  rw[hn]at h hk;simp only at h hk⊢
  cases hk2:iY c with
  |some a=>rw[hk2]at hk;cases hk
  |none=>
   rw[hk2]at h;simp only at h⊢
   cases hm:kY c with
   |some b=>exact⟨b,by dsimp only⟩
   |none=>
    rw[hm]at h;simp only at h⊢
    by_cases hx:c=120
    ·rw[if_pos hx]at h⊢
     cases hq:nE s (z.p+1)with
     |some b=>exact⟨b,by dsimp only⟩
     |none=>rw[hq]at h;exact absurd h (ju _ (by decide))
    ·rw[if_neg hx]at h
     exact absurd h (ju _ (by decide))
theorem lZ{s:qM}{z:PS}(h:(jZ s z).2.e=0)(hk:(jZ s z).1.2=false):∃c,(jZ s z).1.1=jH c:=by
 unfold jZ at h hk⊢
 cases hn:nxR s z with
 |none=>rw[hn]at h;exact absurd h (ju _ (by decide))
 |some c=>
  rw[hn]at h hk;simp only at h hk⊢
  by_cases hc:c=92
  ·rw[if_pos hc]at h hk⊢
   exact r8 h hk
  ·rw[if_neg hc]at h⊢
   by_cases hd:c=45
   ·rw[if_pos hd]at h;exact absurd h (ju _ (by decide))
   ·rw[if_neg hd];refine⟨c,?_⟩;generalize jH c=x;rfl
theorem m0(c:UInt8):Nat.log2 (jH c)=c.toNat:=by
 rw[pV];exact Nat.log2_two_pow
theorem fU(a:UInt8)(W:World):(Instr.index 9 (.string ⟨#[a]⟩) (.int .i64 0)).run Tryd.prog W=.ok (.int .u8 (a.toNat:Nat)) W:=
 jc (P:=Tryd.prog) 9 Tryd.underlying9 (s:=⟨#[a]⟩) (i:=0) (by decide:0<1) W
theorem uO{w:World}{g frm:Nat}{s:ByteArray}{z:PS}(h:qO w g s z)(hs:s.size<=1000000)(hT:jn w):
  Calls Tryd.prog 77 #[.pointer (some ⟨g,0,none⟩),.int .i64 frm] w (jM (qW (bC (bys s) frm z).1) g s (bC (bys s) frm z).2 w):=by
 have hgt:=hT.ne h;have HT:=q9 hT;have hz:=aD;obtain⟨Z,hZ⟩:∃Z,Z=z4:=⟨_,rfl⟩;rw[<-hZ]at hz;have HNW:Hid (∀W:World,jp (W.alloc (.cells Z 72)) W.heap.size 0):=q9 (fun W=>qV W Z hZ)
 have HE0:Hid (Esc w (w.alloc (.cells Z 72)) g s z w.heap.size 0):=q9 ⟨h.up (qo _ _),qV w Z hZ,qs (qo _ _) _,qa _,h.lt⟩;have hgl:=h.lt;have HC1:Hid (∀W,qO W g s z->Calls Tryd.prog 82 #[.pointer (some ⟨g,0,none⟩)] W (jM (nC (jZ (bys s) z)) g s (jZ (bys s) z).2 W)):=q9 (fun W h=>uH h hs)
 have HO1:=q9 (@lZ (bys s) z);have HL1:=q9 (lY (bys s) z);obtain⟨R,hR⟩:∃R,R=bC (bys s) frm z:=⟨_,rfl⟩;rw[<-hR];unfold bC at hR;unfold nC at HC1;clear h hZ hT;generalize jZ (bys s) z=A at*;obtain⟨⟨a,k⟩,za⟩:=A;simp only at hR HC1 HO1 HL1;have HT1:Hid (∀W,qO W g s za->Calls Tryd.prog 43 #[.pointer (some ⟨g,0,none⟩),.int .u8 45] W (jM (.bool (qz (bys s) 45 za).1) g s (qz (bys s) 45 za).2 W)):=q9 (fun W h=>gY h hs 45)
 have HTT:=q9 (fun h=>(bG (s:=bys s) (c:=45) (z:=za) h).2)
 have HTE:=q9 (fun h=>qS (bG (s:=bys s) (c:=45) (z:=za) h).1)
 generalize qz (bys s) 45 za=T1 at*;obtain⟨bt,zt⟩:=T1;simp only at hR HT1 HTT HTE
 cases bt
 ·have HR:Hid (R=(a,zt)):=q9 hR
  clear hR
  go_enter Tryd.func77,Tryd.ntmps77
  go_wp2_with(first
   |((with_reducible refine(HC1.out _ HE0.out.box).mono ?_);rintro e w1 ⟨rfl,hB,hg⟩;have HE1:=q9 (HE0.out.act hB hg);have hba:=qo w1 (.cells Z 72);have HE2:=q9 (HE1.out.below hba);have HN2:=q9 (HNW.out w1);have hs2:=HE1.out.set.lt;clear hB hg hba)
   |(refine qq rfl _ _ rfl w1.heap.size rfl _ a rfl HN2.out ?_;intro w3 hB2 hg2;have HE3:=q9 (HE2.out.far hg2 (by omega) (by omega));have HN3:=q9 hB2;have c1:=HE3.out.box.c1;clear hB2 hg2)
   |((with_reducible refine(HT1.out _ HE3.out.box).mono ?_);rintro e w4 ⟨rfl,hB,hg⟩;have HE4:=q9 (HE3.out.act hB hg);have HN4:=q9 (HN3.out.keepP hg (by omega));clear hB hg)
   |(refine qw rfl _ rfl w1.heap.size rfl _ HN4.out ?_)
   |(refine qq rfl _ _ rfl w.heap.size rfl _ _ rfl HE4.out.set ?_;intro w5 hB2 hg2;have HE5:=q9 (HE4.out.store hB2 hg2);clear hB2 hg2))
  refine qD (s:=4) (ad:=⟨w.heap.size,0,none⟩) (x:=qW a) rfl rfl rfl HE5.out.set.load ?_;rw[HR.out]
  exact⟨rfl,HE5.out.box,HE5.out.gr⟩
 ·obtain⟨hae,-,-⟩:=HTE.out rfl
  rw[if_pos rfl]at hR;have HX1:Hid (∀W,qO W g s zt->Calls Tryd.prog 30 #[.pointer (some ⟨g,0,none⟩)] W fun e w'=>e=.returned (nxV (nxR (bys s) zt))/\∃x,w'=ext W x):=q9 (fun W h=>nxP h)
  unfold nxV at HX1
  cases hn:nxR (bys s) zt with
  |none=>
   rw[hn]at hR HX1;have HR:Hid (R=(a,qC 16 frm zt)):=q9 hR;have HF:Hid (∀W,qO W g s zt->Calls Tryd.prog 31 #[.pointer (some ⟨g,0,none⟩),.int .i64 16,.int .i64 frm] W (jM (.tuple #[]) g s (qC 16 frm zt) W)):=q9 (fun W h=>bY h 16 frm)
   clear hR hn
   go_enter Tryd.func77,Tryd.ntmps77
   go_wp2_with(first
    |((with_reducible refine(HC1.out _ HE0.out.box).mono ?_);rintro e w1 ⟨rfl,hB,hg⟩;have HE1:=q9 (HE0.out.act hB hg);have hba:=qo w1 (.cells Z 72);have HE2:=q9 (HE1.out.below hba);have HN2:=q9 (HNW.out w1);have hs2:=HE1.out.set.lt;clear hB hg hba)
    |(refine qq rfl _ _ rfl w1.heap.size rfl _ a rfl HN2.out ?_;intro w3 hB2 hg2;have HE3:=q9 (HE2.out.far hg2 (by omega) (by omega));have HN3:=q9 hB2;have c1:=HE3.out.box.c1;clear hB2 hg2)
    |((with_reducible refine(HT1.out _ HE3.out.box).mono ?_);rintro e w4 ⟨rfl,hB,hg⟩;have HE4:=q9 (HE3.out.act hB hg);have HN4:=q9 (HN3.out.keepP hg (by omega));clear hB hg)
    |((with_reducible refine(HX1.out _ HE4.out.box).mono ?_);rintro e w5 ⟨rfl,hx⟩;have HE5:=q9 (HE4.out.ext hx);have HN5:=q9 (HN4.out.up (qn hx));have c15:=HE5.out.box.c1;clear hx)
    |((with_reducible refine(HF.out _ HE5.out.box).mono ?_);rintro e w6 ⟨rfl,hB,hg⟩;have HE6:=q9 (HE5.out.act hB hg);have HN6:=q9 (HN5.out.keepP hg (by omega));clear hB hg)
    |(refine qw rfl _ rfl w1.heap.size rfl _ HN6.out ?_)
    |(refine qq rfl _ _ rfl w.heap.size rfl _ _ rfl HE6.out.set ?_;intro w7 hB2 hg2;have HE7:=q9 (HE6.out.store hB2 hg2);clear hB2 hg2))
   refine qD (s:=4) (ad:=⟨w.heap.size,0,none⟩) (x:=qW a) rfl rfl rfl HE7.out.set.load ?_;rw[HR.out]
   exact⟨rfl,HE7.out.box,HE7.out.gr⟩
  |some c=>
   rw[hn]at hR HX1;simp only[Option.getD_some,Option.isSome_some]at hR HX1
   by_cases hc:c=93
   ·rw[if_pos hc]at hR
    have HR:Hid (R=(a,qC 15 zt.p zt)):=q9 hR;have hcb:((c.toNat:Int)==93)=true:=by rw[hc];rfl
    have HF:Hid (∀W,qO W g s zt->Calls Tryd.prog 31 #[.pointer (some ⟨g,0,none⟩),.int .i64 15,.int .i64 zt.p] W (jM (.tuple #[]) g s (qC 15 zt.p zt) W)):=q9 (fun W h=>bY h 15 zt.p)
    clear hR hn hc
    go_enter Tryd.func77,Tryd.ntmps77
    go_wp2_with(first
     |((with_reducible refine(HC1.out _ HE0.out.box).mono ?_);rintro e w1 ⟨rfl,hB,hg⟩;have HE1:=q9 (HE0.out.act hB hg);have hba:=qo w1 (.cells Z 72);have HE2:=q9 (HE1.out.below hba);have HN2:=q9 (HNW.out w1);have hs2:=HE1.out.set.lt;clear hB hg hba)
     |(refine qq rfl _ _ rfl w1.heap.size rfl _ a rfl HN2.out ?_;intro w3 hB2 hg2;have HE3:=q9 (HE2.out.far hg2 (by omega) (by omega));have HN3:=q9 hB2;have c1:=HE3.out.box.c1;clear hB2 hg2)
     |((with_reducible refine(HT1.out _ HE3.out.box).mono ?_);rintro e w4 ⟨rfl,hB,hg⟩;have HE4:=q9 (HE3.out.act hB hg);have HN4:=q9 (HN3.out.keepP hg (by omega));clear hB hg)
     |((with_reducible refine(HX1.out _ HE4.out.box).mono ?_);rintro e w5 ⟨rfl,hx⟩;have HE5:=q9 (HE4.out.ext hx);have HN5:=q9 (HN4.out.up (qn hx));have c15:=HE5.out.box.c1;clear hx)
     |((with_reducible refine(HF.out _ HE5.out.box).mono ?_);rintro e w6 ⟨rfl,hB,hg⟩;have HE6:=q9 (HE5.out.act hB hg);have HN6:=q9 (HN5.out.keepP hg (by omega));clear hB hg)
     |(refine qw rfl _ rfl w1.heap.size rfl _ HN6.out ?_)
     |(refine qq rfl _ _ rfl w.heap.size rfl _ _ rfl HE6.out.set ?_;intro w7 hB2 hg2;have HE7:=q9 (HE6.out.store hB2 hg2);clear hB2 hg2))
    refine qD (s:=4) (ad:=⟨w.heap.size,0,none⟩) (x:=qW a) rfl rfl rfl HE7.out.set.load ?_;rw[HR.out]
    exact⟨rfl,HE7.out.box,HE7.out.gr⟩
   ·rw[if_neg hc]at hR
    have k1:¬c.toNat=93:=fun e=>hc (UInt8.toNat_inj.1 e)
    have HC2:Hid (∀W,qO W g s zt->Calls Tryd.prog 82 #[.pointer (some ⟨g,0,none⟩)] W (jM (nC (jZ (bys s) zt)) g s (jZ (bys s) zt).2 W)):=q9 (fun W h=>uH h hs)
    have HO2:=q9 (@lZ (bys s) zt);have HL2:=q9 (lY (bys s) zt);clear hn hc;unfold nC at HC2;generalize jZ (bys s) zt=B at*;obtain⟨⟨b,k2⟩,zb⟩:=B;simp only at hR HC2 HO2 HL2
    by_cases he:zb.e=0
    ·rw[if_neg (fun h=>h he)]at hR
     have hcb:((zb.e:Int) != 0)=false:=by rw[he];rfl
     have HAO:=q9 (HO1.out hae);have HBO:=q9 (HO2.out he);have HBA:Hid (∀W,jn W->Calls Tryd.prog 83 #[qW a] W fun e w'=>e=.returned (.string ⟨(kV a).toArray⟩)/\∃y,w'=ext W y):=q9 (fun W h=>p9 HL1.out h)
     have HBB:Hid (∀W,jn W->Calls Tryd.prog 83 #[qW b] W fun e w'=>e=.returned (.string ⟨(kV b).toArray⟩)/\∃y,w'=ext W y):=q9 (fun W h=>p9 HL2.out h)
     have HF:Hid (∀W,qO W g s zb->Calls Tryd.prog 31 #[.pointer (some ⟨g,0,none⟩),.int .i64 18,.int .i64 za.p] W (jM (.tuple #[]) g s (qC 18 za.p zb) W)):=q9 (fun W h=>bY h 18 za.p)
     clear he
     by_cases hkk:k=true\/k2=true
     ·have HR:Hid (R=(a,qC 18 za.p zb)):=q9 (by
       rw[hR,if_pos (by rcases hkk with rfl|rfl<;>simp)])
      have hk3:k=true\/k=false/\k2=true:=by
       cases k
       ·exact .inr ⟨rfl,by simpa using hkk⟩
       ·exact .inl rfl
      clear hR hkk HAO HBO HO1 HO2 HTT HTE;generalize kV a=sa at*;generalize kV b=sb at*
      rcases hk3 with rfl|⟨rfl,rfl⟩
      all_goals
       go_enter Tryd.func77,Tryd.ntmps77
       go_wp2_with(first
        |((with_reducible refine(HC1.out _ HE0.out.box).mono ?_);rintro e w1 ⟨rfl,hB,hg⟩;have HE1:=q9 (HE0.out.act hB hg);have hba:=qo w1 (.cells Z 72);have HE2:=q9 (HE1.out.below hba);have HN2:=q9 (HNW.out w1);have hs2:=HE1.out.set.lt;clear hB hg hba)
        |(refine qq rfl _ _ rfl w1.heap.size rfl _ a rfl HN2.out ?_;intro w3 hB2 hg2;have HE3:=q9 (HE2.out.far hg2 (by omega) (by omega));have HN3:=q9 hB2;have c1:=HE3.out.box.c1;clear hB2 hg2)
        |((with_reducible refine(HT1.out _ HE3.out.box).mono ?_);rintro e w4 ⟨rfl,hB,hg⟩;have HE4:=q9 (HE3.out.act hB hg);have HN4:=q9 (HN3.out.keepP hg (by omega));clear hB hg)
        |((with_reducible refine(HX1.out _ HE4.out.box).mono ?_);rintro e w5 ⟨rfl,hx⟩;have HE5:=q9 (HE4.out.ext hx);have HN5:=q9 (HN4.out.up (qn hx));have c15:=HE5.out.box.c1;clear hx)
        |((with_reducible refine(HC2.out _ HE5.out.box).mono ?_);rintro e w6 ⟨rfl,hB,hg⟩;have HE6:=q9 (HE5.out.act hB hg);have HN6:=q9 (HN5.out.keepP hg (by omega));have hba:=qo w6 (.cells Z 72);have HE7:=q9 (HE6.out.below hba);have HN7:=q9 (HN6.out.up hba);have HM7:=q9 (HNW.out w6);have hs6:=HE6.out.set.lt;have hn6:=HN6.out.lt;clear hB hg hba)
        |(refine qq rfl _ _ rfl w6.heap.size rfl _ b rfl HM7.out ?_;intro w8 hB2 hg2;have HE8:=q9 (HE7.out.far hg2 (by omega) (by omega));have HN8:=q9 (HN7.out.keepP hg2 (by omega));have HM8:=q9 hB2;have c28:=HE8.out.box.c2;clear hB2 hg2))
       have HT8:=q9 (jn.fx HT.out HE8.out.gr (fun e=>hgt (by injection e)))
       refine ji (by kernel_rfl) (by kernel_rfl) ?_
       go_simp
       repeat(first
        |(go_big_quiet_want;refine qN _ rfl w1.heap.size rfl a (fun w' hw=>by obtain⟨y,rfl⟩:=hw;exact HN8.out.up (qB _ _)) ?_;go_simp;go_big_quiet_on)
        |(go_big_quiet_want;refine qN _ rfl w6.heap.size rfl b (fun w' hw=>by obtain⟨y,rfl⟩:=hw;exact HM8.out.up (qB _ _)) ?_;go_simp;go_big_quiet_on)
        |go_big_quiet_step (first|(go_at_call 83;(with_reducible exact jq (HBA.out _ (HT8.out.up (qB _ _)))))|(go_at_call 83;(with_reducible exact jq (HBB.out _ (HT8.out.up (qB _ _)))))))
       refine wpQuiet_nil ?_;intro y9;obtain⟨w9,hw⟩:∃v,v=ext w8 y9:=⟨_,rfl⟩;rw[<-hw];have hw9:∃x,w9=ext w8 x:=⟨_,hw⟩;clear hw;have HE9:=q9 (HE8.out.ext hw9);have HN9:=q9 (HN8.out.up (qn hw9));clear hw9
       go_wp2_with(first
        |((with_reducible refine(HF.out _ HE9.out.box).mono ?_);rintro e w10 ⟨rfl,hB,hg⟩;have x6:=q9 (HE9.out.act hB hg);have y4:=q9 (HN9.out.keepP hg (by omega));clear hB hg)
        |(refine qw rfl _ rfl w1.heap.size rfl _ y4.out ?_)
        |(refine qq rfl _ _ rfl w.heap.size rfl _ _ rfl x6.out.set ?_;intro w11 hB2 hg2;have wB:=q9 (x6.out.store hB2 hg2);clear hB2 hg2))
       refine qD (s:=4) (ad:=⟨w.heap.size,0,none⟩) (x:=qW a) rfl rfl rfl wB.out.set.load ?_;rw[HR.out]
       exact⟨rfl,wB.out.box,wB.out.gr⟩
     ·have hkf:k=false:=by cases k;rfl;exact absurd (.inl rfl) hkk
      have zK:k2=false:=by cases k2;rfl;exact absurd (.inr rfl) hkk
      subst hkf zK;obtain⟨ca,hca⟩:=HAO.out rfl;obtain⟨cb,xR⟩:=HBO.out rfl;have hba:kV a=[ca]:=by rw[hca,iN]
      have hbb:kV b=[cb]:=by rw[xR,iN]
      rw[hba]at HBA;rw[hbb]at HBB;rw[show(⟨[ca].toArray⟩:ByteArray)=⟨#[ca]⟩from rfl]at HBA
      rw[show(⟨[cb].toArray⟩:ByteArray)=⟨#[cb]⟩from rfl]at HBB
      have hla:Nat.log2 a=ca.toNat:=by rw[hca,m0]
      have hlb:Nat.log2 b=cb.toNat:=by rw[xR,m0]
      rw[hla,hlb]at hR;have hbl:Op.bytesLess [ca] [cb]=decide (ca.toNat<cb.toNat):=by simp[Op.bytesLess,UInt8.lt_iff_toNat_lt]
      have hbq:(ca==cb)=decide (ca.toNat=cb.toNat):=by rw[Bool.eq_iff_iff];simp[UInt8.toNat_inj]
      clear hkk HAO HBO HO1 HO2 HTT HTE hba hbb hca xR hla hlb
      by_cases hlt:cb.toNat<ca.toNat
      ·have HR:Hid (R=(a,qC 18 za.p zb)):=q9 (by
        rw[hR,if_pos (by simp[hlt])])
       rw[decide_eq_false (by omega)]at hbl hbq
       clear hR hlt
       go_enter Tryd.func77,Tryd.ntmps77
       go_wp2_with(first
        |((with_reducible refine(HC1.out _ HE0.out.box).mono ?_);rintro e w1 ⟨rfl,hB,hg⟩;have HE1:=q9 (HE0.out.act hB hg);have hba:=qo w1 (.cells Z 72);have HE2:=q9 (HE1.out.below hba);have HN2:=q9 (HNW.out w1);have hs2:=HE1.out.set.lt;clear hB hg hba)
        |(refine qq rfl _ _ rfl w1.heap.size rfl _ a rfl HN2.out ?_;intro w3 hB2 hg2;have HE3:=q9 (HE2.out.far hg2 (by omega) (by omega));have HN3:=q9 hB2;have c1:=HE3.out.box.c1;clear hB2 hg2)
        |((with_reducible refine(HT1.out _ HE3.out.box).mono ?_);rintro e w4 ⟨rfl,hB,hg⟩;have HE4:=q9 (HE3.out.act hB hg);have HN4:=q9 (HN3.out.keepP hg (by omega));clear hB hg)
        |((with_reducible refine(HX1.out _ HE4.out.box).mono ?_);rintro e w5 ⟨rfl,hx⟩;have HE5:=q9 (HE4.out.ext hx);have HN5:=q9 (HN4.out.up (qn hx));have c15:=HE5.out.box.c1;clear hx)
        |((with_reducible refine(HC2.out _ HE5.out.box).mono ?_);rintro e w6 ⟨rfl,hB,hg⟩;have HE6:=q9 (HE5.out.act hB hg);have HN6:=q9 (HN5.out.keepP hg (by omega));have hba:=qo w6 (.cells Z 72);have HE7:=q9 (HE6.out.below hba);have HN7:=q9 (HN6.out.up hba);have HM7:=q9 (HNW.out w6);have hs6:=HE6.out.set.lt;have hn6:=HN6.out.lt;clear hB hg hba)
        |(refine qq rfl _ _ rfl w6.heap.size rfl _ b rfl HM7.out ?_;intro w8 hB2 hg2;have HE8:=q9 (HE7.out.far hg2 (by omega) (by omega));have HN8:=q9 (HN7.out.keepP hg2 (by omega));have HM8:=q9 hB2;have c28:=HE8.out.box.c2;clear hB2 hg2))
       have HT8:=q9 (jn.fx HT.out HE8.out.gr (fun e=>hgt (by injection e)))
       refine ji (by kernel_rfl) (by kernel_rfl) ?_
       go_simp
       repeat(first
        |(go_big_quiet_want;refine qN _ rfl w1.heap.size rfl a (fun w' hw=>by obtain⟨y,rfl⟩:=hw;exact HN8.out.up (qB _ _)) ?_;go_simp;go_big_quiet_on)
        |(go_big_quiet_want;refine qN _ rfl w6.heap.size rfl b (fun w' hw=>by obtain⟨y,rfl⟩:=hw;exact HM8.out.up (qB _ _)) ?_;go_simp;go_big_quiet_on)
        |go_big_quiet_step (first|(go_at_call 83;(with_reducible exact jq (HBA.out _ (HT8.out.up (qB _ _)))))|(go_at_call 83;(with_reducible exact jq (HBB.out _ (HT8.out.up (qB _ _)))))))
       refine wpQuiet_nil ?_;intro y9;obtain⟨w9,hw⟩:∃v,v=ext w8 y9:=⟨_,rfl⟩;rw[<-hw];have hw9:∃x,w9=ext w8 x:=⟨_,hw⟩;clear hw;have HE9:=q9 (HE8.out.ext hw9);have HN9:=q9 (HN8.out.up (qn hw9));clear hw9
       go_wp2_with(first
        |((with_reducible refine(HF.out _ HE9.out.box).mono ?_);rintro e w10 ⟨rfl,hB,hg⟩;have x6:=q9 (HE9.out.act hB hg);have y4:=q9 (HN9.out.keepP hg (by omega));clear hB hg)
        |(refine qw rfl _ rfl w1.heap.size rfl _ y4.out ?_)
        |(refine qq rfl _ _ rfl w.heap.size rfl _ _ rfl x6.out.set ?_;intro w11 hB2 hg2;have wB:=q9 (x6.out.store hB2 hg2);clear hB2 hg2))
       refine qD (s:=4) (ad:=⟨w.heap.size,0,none⟩) (x:=qW a) rfl rfl rfl wB.out.set.load ?_;rw[HR.out]
       exact⟨rfl,wB.out.box,wB.out.gr⟩
      ·have HR:Hid (R=(bB ca.toNat cb.toNat,zb)):=q9 (by
        rw[hR,if_neg (by simp;omega)])
       have hbb:Op.bytesLess [ca] [cb]=true/\(ca==cb)=false\/Op.bytesLess [ca] [cb]=false/\(ca==cb)=true:=by
        rw[hbl,hbq];simp;omega
       clear hbl hbq;have hi1:=fU ca;have hi2:=fU cb;have HRG:Hid (∀W,Calls Tryd.prog 80 #[.int .u8 (ca.toNat:Nat),.int .u8 (cb.toNat:Nat)] W (qZ (bB ca.toNat cb.toNat) W)):=q9 (fun W=>fS ca cb W)
       generalize bB ca.toNat cb.toNat=rg at*;clear hR hlt HF
       rcases hbb with⟨hbl,hbq⟩|⟨hbl,hbq⟩
       all_goals
        go_enter Tryd.func77,Tryd.ntmps77
        go_wp2_with(first
         |((with_reducible refine(HC1.out _ HE0.out.box).mono ?_);rintro e w1 ⟨rfl,hB,hg⟩;have HE1:=q9 (HE0.out.act hB hg);have hba:=qo w1 (.cells Z 72);have HE2:=q9 (HE1.out.below hba);have HN2:=q9 (HNW.out w1);have hs2:=HE1.out.set.lt;clear hB hg hba)
         |(refine qq rfl _ _ rfl w1.heap.size rfl _ a rfl HN2.out ?_;intro w3 hB2 hg2;have HE3:=q9 (HE2.out.far hg2 (by omega) (by omega));have HN3:=q9 hB2;have c1:=HE3.out.box.c1;clear hB2 hg2)
         |((with_reducible refine(HT1.out _ HE3.out.box).mono ?_);rintro e w4 ⟨rfl,hB,hg⟩;have HE4:=q9 (HE3.out.act hB hg);have HN4:=q9 (HN3.out.keepP hg (by omega));clear hB hg)
         |((with_reducible refine(HX1.out _ HE4.out.box).mono ?_);rintro e w5 ⟨rfl,hx⟩;have HE5:=q9 (HE4.out.ext hx);have HN5:=q9 (HN4.out.up (qn hx));have c15:=HE5.out.box.c1;clear hx)
         |((with_reducible refine(HC2.out _ HE5.out.box).mono ?_);rintro e w6 ⟨rfl,hB,hg⟩;have HE6:=q9 (HE5.out.act hB hg);have HN6:=q9 (HN5.out.keepP hg (by omega));have hba:=qo w6 (.cells Z 72);have HE7:=q9 (HE6.out.below hba);have HN7:=q9 (HN6.out.up hba);have HM7:=q9 (HNW.out w6);have hs6:=HE6.out.set.lt;have hn6:=HN6.out.lt;clear hB hg hba)
         |(refine qq rfl _ _ rfl w6.heap.size rfl _ b rfl HM7.out ?_;intro w8 hB2 hg2;have HE8:=q9 (HE7.out.far hg2 (by omega) (by omega));have HN8:=q9 (HN7.out.keepP hg2 (by omega));have HM8:=q9 hB2;have c28:=HE8.out.box.c2;clear hB2 hg2))
        have HT8:=q9 (jn.fx HT.out HE8.out.gr (fun e=>hgt (by injection e)))
        refine ji (by kernel_rfl) (by kernel_rfl) ?_
        go_simp
        repeat(first
         |(go_big_quiet_want;refine qN _ rfl w1.heap.size rfl a (fun w' hw=>by obtain⟨y,rfl⟩:=hw;exact HN8.out.up (qB _ _)) ?_;go_simp;go_big_quiet_on)
         |(go_big_quiet_want;refine qN _ rfl w6.heap.size rfl b (fun w' hw=>by obtain⟨y,rfl⟩:=hw;exact HM8.out.up (qB _ _)) ?_;go_simp;go_big_quiet_on)
         |go_big_quiet_step (first|(go_at_call 83;(with_reducible exact jq (HBA.out _ (HT8.out.up (qB _ _)))))|(go_at_call 83;(with_reducible exact jq (HBB.out _ (HT8.out.up (qB _ _)))))))
        refine wpQuiet_nil ?_;intro y9;obtain⟨w9,hw⟩:∃v,v=ext w8 y9:=⟨_,rfl⟩;rw[<-hw];have hw9:∃x,w9=ext w8 x:=⟨_,hw⟩;clear hw;have HE9:=q9 (HE8.out.ext hw9);have HN9:=q9 (HN8.out.up (qn hw9));clear hw9;go_wp2;refine jx [0,1,2,3] [4] [5] (by kernel_rfl) (by kernel_rfl) ?_
        simp only[pk];go_simp
        repeat(go_big_quiet_step (fail))
        refine wpQuiet_nil ?_;have B1:=q9 (HE9.out.below (cY (qi _ w9)));have HBd:Hid (Below w9.heap.size w9 w9.drew):=q9 (cY (qi _ _));generalize w9.drew=w10 at*;unfold qX
        go_wp2_with((with_reducible refine(HRG.out _).mono ?_);rintro e w11 ⟨rfl,hx⟩;have hb:=qn hx;have wB:=q9 (B1.out.ext hx);have xF:=q9 (j7 HBd.out hb);clear hx hb)
        refine⟨qv xF.out,?_⟩;unfold qX;unfold qX
        go_wp2_with(refine qq rfl _ _ rfl w.heap.size rfl _ _ rfl wB.out.set ?_;intro w12 hB2 hg2;have y6:=q9 (wB.out.store hB2 hg2);clear hB2 hg2)
        refine⟨trivial,?_⟩;unfold qX;go_wp2;refine qD (s:=4) (ad:=⟨w.heap.size,0,none⟩) (x:=qW rg) rfl rfl rfl y6.out.set.load ?_;rw[HR.out]
        exact⟨rfl,y6.out.box,y6.out.gr⟩
    ·rw[if_pos he]at hR
     have HR:Hid (R=(a,zb)):=q9 hR;have hcb:((zb.e:Int) != 0)=true:=by simp;omega
     clear hR he
     go_enter Tryd.func77,Tryd.ntmps77
     go_wp2_with(first
      |((with_reducible refine(HC1.out _ HE0.out.box).mono ?_);rintro e w1 ⟨rfl,hB,hg⟩;have HE1:=q9 (HE0.out.act hB hg);have hba:=qo w1 (.cells Z 72);have HE2:=q9 (HE1.out.below hba);have HN2:=q9 (HNW.out w1);have hs2:=HE1.out.set.lt;clear hB hg hba)
      |(refine qq rfl _ _ rfl w1.heap.size rfl _ a rfl HN2.out ?_;intro w3 hB2 hg2;have HE3:=q9 (HE2.out.far hg2 (by omega) (by omega));have HN3:=q9 hB2;have c1:=HE3.out.box.c1;clear hB2 hg2)
      |((with_reducible refine(HT1.out _ HE3.out.box).mono ?_);rintro e w4 ⟨rfl,hB,hg⟩;have HE4:=q9 (HE3.out.act hB hg);have HN4:=q9 (HN3.out.keepP hg (by omega));clear hB hg)
      |((with_reducible refine(HX1.out _ HE4.out.box).mono ?_);rintro e w5 ⟨rfl,hx⟩;have HE5:=q9 (HE4.out.ext hx);have HN5:=q9 (HN4.out.up (qn hx));have c15:=HE5.out.box.c1;clear hx)
      |((with_reducible refine(HC2.out _ HE5.out.box).mono ?_);rintro e w6 ⟨rfl,hB,hg⟩;have HE6:=q9 (HE5.out.act hB hg);have HN6:=q9 (HN5.out.keepP hg (by omega));have hba:=qo w6 (.cells Z 72);have HE7:=q9 (HE6.out.below hba);have HN7:=q9 (HN6.out.up hba);have HM7:=q9 (HNW.out w6);have hs6:=HE6.out.set.lt;have hn6:=HN6.out.lt;clear hB hg hba)
      |(refine qq rfl _ _ rfl w6.heap.size rfl _ b rfl HM7.out ?_;intro w8 hB2 hg2;have HE8:=q9 (HE7.out.far hg2 (by omega) (by omega));have HN8:=q9 (HN7.out.keepP hg2 (by omega));have HM8:=q9 hB2;have c28:=HE8.out.box.c2;clear hB2 hg2)
      |(refine qw rfl _ rfl w1.heap.size rfl _ HN8.out ?_)
      |(refine qq rfl _ _ rfl w.heap.size rfl _ _ rfl HE8.out.set ?_;intro w9 hB2 hg2;have HE9:=q9 (HE8.out.store hB2 hg2);clear hB2 hg2))
     refine qD (s:=4) (ad:=⟨w.heap.size,0,none⟩) (x:=qW a) rfl rfl rfl HE9.out.set.load ?_;rw[HR.out]
     exact⟨rfl,HE9.out.box,HE9.out.gr⟩
end Go.Cm
namespace Go.Cm
theorem v7:qU [97,32,61,32,120,43,32,35,32,110,111,10,10,35,32,114,101,109,97,114,107,10,98,61,121]=([([97],[120,43,32,35,32,110,111]),([98],[121])],[]):=by decide+kernel
theorem v9:qU [97,32,61,32,40]=([],[(4,4),(16,0)]):=by decide+kernel
theorem vA:qU []=([],[(17,0)]):=by decide+kernel
theorem vB:qU [97,32,61,32,120,42]=([],[(27,4)]):=by decide+kernel
end Go.Cm
namespace Go.Cm
open Go.RowKit Go.Proofs Go.Proofs.YtcdaljipemapbaaDoor
def bA:List (String×DataW Unit):=("math/bits.deBruijn64tab",Rows.laid_math_bits_deBruijn64tab)::oK
theorem rY:bA.filter (fun x=>x.1 != "math/bits.deBruijn64tab")=oK:=by
 unfold bA oK
 simp[List.filter]
theorem j6.ofR{W:World}(h:laidMetH Tryd.prog bA W):j6 W:=j6.of (by
 have:=laidMetH.filter (fun x=>x.1 != "math/bits.deBruijn64tab") h
 rwa [rY]at this)
theorem rZ:∃rest,bA.filter (fun x=>x.2.handleName?.isNone)=("math/bits.deBruijn64tab",Lib.tabData .u8 (Lib.deBruijn64tab.map Int.ofNat))::rest:=⟨_,rfl⟩
theorem jn.ofR{W:World}(h:laidMetH Tryd.prog bA W):jn W:=by
 obtain⟨h1,-⟩:=laidMetH_iff.1 h;obtain⟨rest,e⟩:=rZ;rw[e]at h1;have h2:=Lib.tabIs_of_head (g:=6) (by kernel_rfl) (by kernel_rfl) Tryd.underlying133 Tryd.underlying5 (by kernel_rfl) (by kernel_rfl) h1
 intro j hj;have:=h2.cell (g:=6) (by kernel_rfl) j (qd hj (by decide))
 rw[this]
 congr 2
 rw[List.getD_eq_getElem?_getD,List.getD_eq_getElem?_getD,List.getElem?_map]
 cases Lib.deBruijn64tab[j]? <;>rfl
noncomputable def cT(os:Os):World:=
 let w0:=rX os
 {w0 with heap:=w0.heap.modify 6 fun
   |.cells _ t frozen=>.cells (Lib.deBruijn64tab.map fun k=>Value.int .u8 (Int.ofNat k)).toArray t frozen
   |o=>o}
theorem aJ(os:Os)(args:Array Value):laidMetH Tryd.prog bA ((cT os).forCall (fun _ _=>0) ⟨#[],args,[]⟩).memory:=
 laidMetH_of_parts (laidMet_of_run' 8 (by kernel_rfl) (by kernel_rfl)) (by kernel_rfl)
end Go.Cm
