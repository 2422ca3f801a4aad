/- Walks of functions and plain facts, joined and squeezed by a program. Conditions: as each says. -/
import Derived.Deep.LoopGhost
import Derived.Test.YtiladjhipahiiaaDMXA
set_option maxHeartbeats 8000000
set_option maxRecDepth 100000
set_option linter.unusedSimpArgs false
namespace Go.Cm
open Go.RowKit Go.Proofs
def q5D(N p n:Nat):Nat:=N/2^p%2^n
theorem fN.upB{w w':World}{v:Value}{l:List Int}{n:Nat}(h:fN w v l)(hn:w.heap.size<=n)(hb:Below n w w'):fN w' v l:=h.up (hb.mono hn)
end Go.Cm
