/- What is the same has the same names free, in the same row. Plain; SameTexts. No condition. -/
import Derived.Test.YtgonkhaebmfgiaaGreatDoorR
import Derived.Test.YtgonkhaebmfgiaaGreatDoorO
import Derived.Test.YtgonkhaebmfgiaaGreatDoorN
set_option linter.unusedSimpArgs false
set_option linter.unusedVariables false
namespace Go.Proofs.YtgonkhaebmfgiaaGreatDoor
open Go Fp
set_option maxRecDepth 10000
set_option maxHeartbeats 4000000
set_option linter.unusedVariables false
set_option maxHeartbeats 16000000
def zb:Db->Nat
 | .app a b=>1+zb a+zb b
 | .all a=>1+zb a
 | _=>1
section
variable {c b:Cr} {x:ByteArray} (hc:Sm c) (hb:Sm b)
include hc hb
end
end Go.Proofs.YtgonkhaebmfgiaaGreatDoor
