/- Typed core, as the code types it; parts of it: the law CheckParts. No condition but that the numbers are such. -/
import Derived.Test.YtdmbahepaglcbaaGreatDoorAC
import Derived.Test.YtdmbahepaglcbaaGreatDoorAB
import Derived.Test.YtdmbahepaglcbaaGreatDoorAA
set_option linter.unusedSimpArgs false
set_option linter.unusedVariables false
namespace Go.Proofs.YtdmbahepaglcbaaGreatDoor
open Go Fp
set_option maxRecDepth 10000
set_option maxHeartbeats 8000000
set_option linter.unusedVariables false
section
variable {c d:Cr} {r:Bool} (hll:c.kids.length=d.kids.length/\c.binds.length=d.binds.length/\c.alts.length=d.alts.length) (hl:c.kids.length<1000000/\c.binds.length<1000000/\c.alts.length<1000000)
include hll hl
end
end Go.Proofs.YtdmbahepaglcbaaGreatDoor
