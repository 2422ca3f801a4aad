/- Walks of functions and plain facts, joined and squeezed by a program. Conditions: as each says. -/
import Derived.Test.YtcdaljipemapbaaDoorRXTF
set_option maxHeartbeats 8000000
set_option maxRecDepth 100000
set_option linter.unusedSimpArgs false
namespace Go.Cm
theorem lN{p:UInt8->Bool}{s:qM}{c:UInt8}(h:(s.drop (qK p s)).head?=some c):p c=false:=by
 unfold qK at h
 induction s with
 |nil=>simp at h
 |cons d s ih=>
  by_cases hd:p d=true
  ·rw[List.takeWhile_cons_of_pos hd,List.length_cons,List.drop_succ_cons]at h
   exact ih h
  ·rw[List.takeWhile_cons_of_neg hd]at h
   simp only[List.length_nil,List.drop_zero,List.head?_cons,Option.some.injEq]at h;subst h
   simpa using hd
theorem iG(s:qM):∃k,jD s=s.take k:=by
 unfold jD;obtain⟨a,ha⟩:=List.dropWhile_suffix (l:=s.reverse) jm;refine⟨(s.reverse.dropWhile jm).length,?_⟩
 have:s=(s.reverse.dropWhile jm).reverse++a.reverse:=by
  have:=congrArg List.reverse ha
  simpa using this.symm
 have hl:((s.reverse.dropWhile jm).reverse).length=(s.reverse.dropWhile jm).length:=by simp
 rw[<-hl];generalize (s.reverse.dropWhile jm).reverse=x at*;rw[this]
 simp
theorem dP(p:UInt8->Bool)(s:qM):(s.dropWhile p).dropWhile p=s.dropWhile p:=by
 induction s with
 |nil=>rfl
 |cons c s ih=>
  by_cases hc:p c=true
  ·rw[List.dropWhile_cons_of_pos hc];exact ih
  ·rw[List.dropWhile_cons_of_neg hc,List.dropWhile_cons_of_neg hc]
theorem lO(s:qM):jD (jD s)=jD s:=by
 unfold jD;rw[List.reverse_reverse,dP]
theorem nO{t:qM}{a:Nat}(h:bL t a=[])(b:Nat):bL t b=[]:=by
 unfold bL at h⊢;split at h
 ·cases h
 ·rename_i g
  rw[if_neg g];split at h
  ·cases h
  ·rename_i g2;rw[if_neg g2]
theorem pQ{l:List Rul}{s:qM}{a:Nat}(hs:(10:UInt8)∉s)(h:jK l)(he:(jy l s a).2=[]):jK (jy l s a).1/\l.length<=(jy l s a).1.length:=by
 unfold jy at he⊢;simp only at he⊢;split
 ·exact⟨h,qa _⟩
 ·rename_i g1
  rw[if_neg g1]at he;generalize hname:(s.drop (qK jm s)).take (qK bE (s.drop (qK jm s)))=name at*;split
  ·rename_i g2;rw[if_pos g2]at he;cases he
  ·rename_i g2
   rw[if_neg g2]at he;generalize qK jm s+name.length=tq at*;split
   ·rename_i g3;rw[if_pos g3]at he;cases he
   ·rename_i g3
    rw[if_neg g3]at he;split
    ·rename_i g4;rw[if_pos g4]at he;cases he
    ·rename_i g4
     rw[if_neg g4]at he;split
     ·rename_i g5;rw[if_pos g5]at he;cases he
     ·rename_i g5
      rw[if_neg g5]at he;generalize hto:tq+qK jm (s.drop tq)+1=t3 at*;split
      ·rename_i g6;rw[if_pos g6]at he;exact absurd he g6
      ·rename_i g6
       have hb:=Classical.not_not.1 g6;obtain⟨k,hk⟩:=iG (s.drop (t3+qK jm (s.drop t3)))
       have wV:∀c∈jD (s.drop (t3+qK jm (s.drop t3))),c∈s:=fun c hc=>by
        rw[hk]at hc
        exact List.mem_of_mem_drop (List.mem_of_mem_take hc)
       refine⟨h.snoc ⟨by simpa using g2,fun b=>nO hb b,fun hc=>hs (wV _ hc),fun c hc=>?_,lO _⟩ ?_ g5,by simp⟩
       ·dsimp only at hc
        rw[hk]at hc;refine lN (p:=jm) (s:=s.drop t3) (c:=c) ?_;rw[List.drop_drop]
        cases k with
        |zero=>simp at hc
        |succ k=>
         rw[List.head?_take]at hc
         simpa using hc
       ·intro hm
        apply g4
        rw[List.any_eq_true];obtain⟨y,hy,e⟩:=List.mem_map.1 hm
        exact⟨y,hy,by simp[e]⟩
theorem lP{s:qM}:∀(f a:Nat) (l:List Rul),0<f->s.length+1<=a+f->jK l->(jz s f a l).2=[]->jK (jz s f a l).1/\(jz s f a l).1≠[]
 |0,_,_,h0,_,_,_=>absurd h0 (Nat.lt_irrefl 0)
 |f+1,a,l,_,hf,h,he=>by
  unfold jz at he⊢;simp only at he⊢;split
  ·rename_i g
   rw[if_pos g]at he;generalize hn:qK dN (s.drop a)=n at*;split
   ·rename_i g2;rw[if_pos g2]at he;exact absurd he g2
   ·rename_i g2
    rw[if_neg g2]at he
    have h10:(10:UInt8)∉(s.drop a).take n:=by
     intro hc
     have:(s.drop a).take n=(s.drop a).takeWhile dN:=by
      rw[<-hn]
      exact(List.prefix_iff_eq_take.1 (List.takeWhile_prefix dN)).symm
     rw[this]at hc;have:=lK hc
     simp[dN]at this
    exact lP f (a+n+1) _ (by omega) (by omega) (pQ h10 h (Classical.not_not.1 g2)).1 he
  ·rename_i g
   rw[if_neg g]at he;split
   ·rename_i g2;rw[if_pos g2]at he;cases he
   ·exact⟨h,by assumption⟩
theorem iH{s:qM}(h:(qU s).2=[]):jK (qU s).1/\(qU s).1≠[]:=by
 unfold qU at h⊢;split
 ·rename_i g;rw[if_pos g]at h;cases h
 ·rename_i g;rw[if_neg g]at h;exact lP _ _ _ (by omega) (by omega) jK.nil h
end Go.Cm
namespace Go.Cm
open Go.RowKit Go.Proofs
theorem oI(s:qM):(jD s).length<=s.length:=by
 obtain⟨k,hk⟩:=iG s;rw[hk,List.length_take];exact Nat.min_le_right _ _
theorem oJ{M:Nat}{l:List Rul}{s:qM}{a:Nat}(hl:Fit M l)(hs:s.length<=M):Fit M (jy l s a).1:=by
 unfold jy;simp only;split
 ·exact hl
 ·split
  ·exact hl
  ·split
   ·exact hl
   ·split
    ·exact hl
    ·split
     ·exact hl
     ·split
      ·exact hl
      ·intro x hx
       rcases List.mem_append.1 hx with hx|hx
       ·exact hl x hx
       ·rw[List.mem_singleton.1 hx]
        refine⟨?_,?_⟩
        ·simp only[List.length_take,List.length_drop];omega
        ·exact qb (oI _) (by rw[List.length_drop];omega)
theorem iV{M:Nat}{s:qM}(hs:s.length<=M):∀(f a:Nat) (l:List Rul),Fit M l->Fit M (jz s f a l).1
 |0,_,_,h=>h
 |f+1,a,l,h=>by
  unfold jz;simp only;split
  ·split
   ·intro x hx;cases hx
   ·exact iV hs f _ _ (oJ h (by rw[List.length_take,List.length_drop];omega))
  ·split
   ·intro x hx;cases hx
   ·exact h
theorem gF(s:qM):Fit s.length (qU s).1:=by
 unfold qU;split
 ·intro x hx;cases hx
 ·exact iV (qa _) _ _ _ (by intro x hx;cases hx)
theorem iW{s:qM}:∀(f a:Nat) (l:List Rul),(jz s f a l).2.length<=2
 |0,_,_=>qc _
 |f+1,a,l=>by
  unfold jz;simp only;split
  ·split
   ·exact mW _ _ _
   ·exact iW f _ _
  ·split
   ·exact(by decide:(1:Nat)<=2)
   ·exact qc _
theorem gG(s:qM):(qU s).2.length<=2:=by
 unfold qU;split
 ·exact(by decide:(1:Nat)<=2)
 ·exact iW _ _ _
end Go.Cm
