/- The document's Free. No condition but on lengths. -/
import Derived.Test.YtgonkhaebmfgiaaGreatDoorT
import Derived.Test.YtgonkhaebmfgiaaGreatDoorFpM
set_option linter.unusedSimpArgs false
set_option linter.unusedVariables false
namespace Go.Proofs.YtgonkhaebmfgiaaGreatDoor
open Go Fp
set_option maxRecDepth 10000
set_option maxHeartbeats 16000000
set_option linter.unusedVariables false
end Go.Proofs.YtgonkhaebmfgiaaGreatDoor
