/- What is given, in the code: names, types' variables; Concat. No condition but on lengths. -/
import Derived.Test.YtgonkhaebmfgiaaGreatDoorN
set_option linter.unusedSimpArgs false
set_option linter.unusedVariables false
namespace Go.Proofs.YtgonkhaebmfgiaaGreatDoor
open Go Fp
set_option maxRecDepth 10000
set_option maxHeartbeats 8000000
set_option linter.unusedVariables false
noncomputable instance decDb:DecidableEq Db:=fun a b=>Classical.propDecidable _
noncomputable instance decDC:DecidableEq DC:=fun a b=>Classical.propDecidable _
end Go.Proofs.YtgonkhaebmfgiaaGreatDoor
