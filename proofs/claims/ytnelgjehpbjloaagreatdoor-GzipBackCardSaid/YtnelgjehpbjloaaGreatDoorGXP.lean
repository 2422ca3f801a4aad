/- Walks of functions and plain facts, joined and squeezed by a program. Conditions: as each says. -/
import Derived.Test.YtnelgjehpbjloaaGreatDoorGXN
set_option maxHeartbeats 8000000
set_option maxRecDepth 100000
set_option linter.unusedSimpArgs false
namespace Go.Cm
attribute [local irreducible] j8
theorem tD{s:ByteArray}{q:Nat}{t:qK}:cZ s q t=[]↔s.size=(q+7)/8+8/\qJ s ((q+7)/8) 4=bL t/\qJ s ((q+7)/8+4) 4=t.length:=by
 unfold cZ
 by_cases h1:s.size<(q+7)/8+8
 ·rw[if_pos h1];exact⟨fun h=>(by cases h),fun h=>by omega⟩
 rw[if_neg h1]
 by_cases h2:qJ s ((q+7)/8) 4≠bL t
 ·rw[if_pos h2];exact⟨fun h=>(by cases h),fun h=>absurd h.2.1 h2⟩
 rw[if_neg h2]
 by_cases h3:qJ s ((q+7)/8+4) 4≠t.length
 ·rw[if_pos h3];exact⟨fun h=>(by cases h),fun h=>absurd h.2.2 h3⟩
 rw[if_neg h3]
 by_cases h4:(q+7)/8+8<s.size
 ·rw[if_pos h4];exact⟨fun h=>(by cases h),fun h=>by omega⟩
 rw[if_neg h4]
 exact⟨fun _=>⟨by omega,Classical.not_not.1 h2,Classical.not_not.1 h3⟩,fun _=>rfl⟩
theorem tE{s:ByteArray}(h:(jI s).2=[]):s.size<=16777216/\(qU s).1=0/\erI s [] (8*(qU s).2.2)=0/\cZ s (enI s [] (8*(qU s).2.2)) (txI s [] (8*(qU s).2.2))=[]/\
  jI s=(⟨(qU s).2.1,8*(qU s).2.2,enI s [] (8*(qU s).2.2),bgI s [] (8*(qU s).2.2),txI s [] (8*(qU s).2.2)⟩,[]):=by
 unfold jI at h⊢;generalize hM:(16777216:Nat)=M at*
 by_cases h1:M<s.size
 ·rw[if_pos h1]at h;cases h
 rw[if_neg h1]at h⊢
 by_cases h2:(qU s).1≠0
 ·rw[if_pos h2]at h;cases h
 rw[if_neg h2]at h⊢
 by_cases h3:erI s [] (8*(qU s).2.2)≠0
 ·rw[if_pos h3]at h;cases h
 rw[if_neg h3]at h⊢
 by_cases h4:cZ s (enI s [] (8*(qU s).2.2)) (txI s [] (8*(qU s).2.2))≠[]
 ·rw[if_pos h4]at h;exact absurd h h4
 rw[if_neg h4]
 exact⟨by omega,Classical.not_not.1 h2,Classical.not_not.1 h3,Classical.not_not.1 h4,rfl⟩
end Go.Cm
namespace Go.Cm
open Go.RowKit Go.Proofs
attribute [local irreducible] j8
theorem pF{s:ByteArray}(h:(jI s).2≠[]):(jI s).1=zGI:=by
 unfold jI at h⊢;generalize (16777216:Nat)=M at*
 by_cases h1:M<s.size
 ·rw[if_pos h1]
 rw[if_neg h1]at h⊢
 by_cases h2:(qU s).1≠0
 ·rw[if_pos h2]
 rw[if_neg h2]at h⊢
 by_cases h3:erI s [] (8*(qU s).2.2)≠0
 ·rw[if_pos h3]
 rw[if_neg h3]at h⊢
 by_cases h4:cZ s (enI s [] (8*(qU s).2.2)) (txI s [] (8*(qU s).2.2))≠[]
 ·rw[if_pos h4]
 rw[if_neg h4]at h
 exact absurd rfl h
end Go.Cm
