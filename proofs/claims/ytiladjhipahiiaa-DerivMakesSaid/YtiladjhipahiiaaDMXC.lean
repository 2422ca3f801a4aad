/- Walks of functions and plain facts, joined and squeezed by a program. Conditions: as each says. -/
import Derived.Deep.DeepCutAuto
import Derived.Deep.LoopGhost
import Derived.Test.YtiladjhipahiiaaDMXA
set_option maxHeartbeats 8000000
set_option maxRecDepth 100000
set_option linter.unusedSimpArgs false
namespace Go.Cm
open Go.RowKit Go.Proofs
theorem zU{s:ByteArray}{a b:Nat}{l:dG}(h:(((bys s).drop a).take (b-a))=l):s.extract a b=⟨l.toArray⟩:=by
 have:(s.extract a b).data.toList=l:=by
  rw[<-h];simp[bys,List.extract]
 cases hx:s.extract a b with
 |mk d=>rw[hx]at this;simp only at this;rw[<-this]
end Go.Cm
