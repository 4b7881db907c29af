/- What the law makes besides: names, short texts. No condition but that the numbers are such. -/
import Derived.Test.YtdmbahepaglcbaaGreatDoorO
set_option linter.unusedSimpArgs false
set_option linter.unusedVariables false
namespace Go.Proofs.YtdmbahepaglcbaaGreatDoor
open Go Fp
set_option maxRecDepth 10000
set_option maxHeartbeats 8000000
set_option linter.unusedVariables false
end Go.Proofs.YtdmbahepaglcbaaGreatDoor
