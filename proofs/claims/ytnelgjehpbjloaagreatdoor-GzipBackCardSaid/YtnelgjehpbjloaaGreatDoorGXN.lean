/- Walks of functions and plain facts, joined and squeezed by a program. Conditions: as each says. -/
import Derived.Test.YtnelgjehpbjloaaGreatDoorGXM
set_option maxHeartbeats 8000000
set_option maxRecDepth 100000
set_option linter.unusedSimpArgs false
namespace Go.Cm
open Go.RowKit Go.Proofs
theorem q5N{s:ByteArray}{t:qK}{p:Nat}:(bgI s t p).length<=16*s.size+2:=by
 have h:=nZ (s:=s) (pre:=(j8 t).length) (z0:=eH t p) rfl (2*(8*s.size)+2);have e:bgI s t p=(jc s (j8 t).length (eH t p) (2*(8*s.size)+2)).2.st:=rfl;rw[e];omega
end Go.Cm
namespace Go.Cm
open Go.RowKit Go.Proofs
attribute [local irreducible] j8
theorem q3D{s:ByteArray}{q:Nat}{t:qK}{y:Nat×Nat}(h:y∈cZ s q t):y.1<=27/\y.2<=s.size:=by
 unfold cZ at h;split at h
 ·rcases List.mem_singleton.1 h with rfl;exact⟨show(2:Nat)<=27 by decide,q9 _⟩
 ·rename_i h1
  split at h
  ·rcases List.mem_singleton.1 h with rfl;exact⟨show(5:Nat)<=27 by decide,by show(q+7)/8<=s.size;omega⟩
  ·split at h
   ·rcases List.mem_singleton.1 h with rfl;exact⟨show(6:Nat)<=27 by decide,by show(q+7)/8<=s.size;omega⟩
   ·split at h
    ·rcases List.mem_singleton.1 h with rfl;exact⟨show(14:Nat)<=27 by decide,by show(q+7)/8+8<=s.size;omega⟩
    ·cases h
theorem pE{s:ByteArray}(hs:s.size<=4000000):(jI s).1.st.length<=16*s.size+2/\(jI s).2.length<=2/\∀y∈(jI s).2,y.1<=27/\y.2<10^18:=by
 have h1:=S4 (s:=s);have h2:=o6 (s:=s);have h3:=q4f s [] (8*(qU s).2.2);have h4:=xJ (s:=s) (t:=[]) (p:=8*(qU s).2.2) (by omega)
 have h5:=q5N (s:=s) (t:=[]) (p:=8*(qU s).2.2);have h6:=D5 (s:=s) (q:=enI s [] (8*(qU s).2.2)) (t:=txI s [] (8*(qU s).2.2));have h7:=fun y=>q3D (s:=s) (q:=enI s [] (8*(qU s).2.2)) (t:=txI s [] (8*(qU s).2.2)) (y:=y)
 unfold jI;rw[if_neg (by omega)]
 split
 ·refine⟨qc _,show 1<=2 by decide,fun y hy=>?_⟩
  rcases List.mem_singleton.1 hy with rfl
  exact⟨h1,show 0<10^18 by decide⟩
 ·split
  ·refine⟨qc _,q9 _,fun y hy=>?_⟩
   rcases List.mem_cons.1 hy with rfl|hy
   ·exact⟨show 4<=27 by decide,by show(qU s).2.2<_;omega⟩
   ·rcases List.mem_singleton.1 hy with rfl
    exact⟨h3,by show(txI s [] (8*(qU s).2.2)).length<_;omega⟩
  ·split
   ·exact⟨qc _,by show(cZ _ _ _).length<=2;omega,fun y hy=>⟨(h7 y hy).1,by have:=(h7 y hy).2;omega⟩⟩
   ·exact⟨h5,qc _,fun y hy=>by cases hy⟩
end Go.Cm
