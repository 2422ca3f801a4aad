/- Walks of functions and plain facts, joined and squeezed by a program. Conditions: as each says. -/
import Derived.Test.YtnelgjehpbjloaaGreatDoorGXE
set_option maxHeartbeats 8000000
set_option maxRecDepth 100000
set_option linter.unusedSimpArgs false
namespace Go.Cm
open Go.RowKit Go.Proofs
theorem nS(l:qK)(i:Nat)(h:i<l.length):(qD l).getD i undef=.int .u8 ((l.getD i 0).toNat:Nat):=by
 simp[qD,List.getD,h]
theorem uV(l:qK)(i:Nat)(b:UInt8):(qD l).set i (.int .u8 (b.toNat:Nat))=qD (l.set i b):=by
 simp[qD,List.map_set]
end Go.Cm
