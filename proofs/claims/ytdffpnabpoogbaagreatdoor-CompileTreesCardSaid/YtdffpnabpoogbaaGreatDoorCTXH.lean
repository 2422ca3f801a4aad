/- Walks of functions and plain facts, joined and squeezed by a program. Conditions: as each says. -/
import Derived.Test.YtdffpnabpoogbaaGreatDoorCTXC
import Derived.Test.YtdffpnabpoogbaaGreatDoorCTXE
set_option maxHeartbeats 8000000
set_option maxRecDepth 100000
set_option linter.unusedSimpArgs false
namespace Go.Cm
open Go.RowKit Go.Proofs
theorem eE.upB{w w':World}{v:Value}{l:List Int}{n:Nat}(h:eE w v l)(hn:w.heap.size<=n)(hb:Below n w w'):eE w' v l:=h.up (hb.mono hn)
end Go.Cm
