/- What the law makes besides: names, short texts. No condition but that the numbers are such. -/
import Derived.Test.YtgonkhaebmfgiaaGreatDoorN
set_option linter.unusedSimpArgs false
set_option linter.unusedVariables false
namespace Go.Proofs.YtgonkhaebmfgiaaGreatDoor
open Go Fp
set_option maxRecDepth 10000
set_option maxHeartbeats 8000000
set_option linter.unusedVariables false
set_option maxHeartbeats 16000000
end Go.Proofs.YtgonkhaebmfgiaaGreatDoor
