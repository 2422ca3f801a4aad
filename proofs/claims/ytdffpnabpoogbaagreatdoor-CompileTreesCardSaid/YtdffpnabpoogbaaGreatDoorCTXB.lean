/- Walks of functions and plain facts, joined and squeezed by a program. Conditions: as each says. -/
import Derived.Test.YtdffpnabpoogbaaGreatDoorCTX0
set_option maxHeartbeats 8000000
set_option maxRecDepth 100000
set_option linter.unusedSimpArgs false
namespace Go.Cm
def q7m(v:Nat):Nat->Nat
 |0=>0
 |n+1=>2*q7m v n+(v.testBit n).toNat
end Go.Cm
