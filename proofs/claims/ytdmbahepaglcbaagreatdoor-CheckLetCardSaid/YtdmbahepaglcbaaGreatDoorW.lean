/- What is free: the document's, if few names are. No condition but on lengths. -/
import Derived.Test.YtdmbahepaglcbaaGreatDoorQ
import Derived.Test.YtdmbahepaglcbaaGreatDoorV
import Derived.Test.YtdmbahepaglcbaaGreatDoorP
set_option linter.unusedSimpArgs false
set_option linter.unusedVariables false
namespace Go.Proofs.YtdmbahepaglcbaaGreatDoor
open Go Fp
set_option maxRecDepth 100000
set_option maxHeartbeats 8000000
set_option linter.unusedVariables false
noncomputable instance decDb:DecidableEq Db:=fun a b=>Classical.propDecidable _
noncomputable instance decDC:DecidableEq DC:=fun a b=>Classical.propDecidable _
set_option maxHeartbeats 16000000
end Go.Proofs.YtdmbahepaglcbaaGreatDoor
