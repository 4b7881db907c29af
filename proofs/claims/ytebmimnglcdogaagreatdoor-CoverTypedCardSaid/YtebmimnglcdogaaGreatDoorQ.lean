/- What tells that core is of no type: must; the panic with none. No condition. -/
import Derived.Test.YtebmimnglcdogaaGreatDoorS1
import Derived.WalkKit
import Derived.WalkSmall
set_option linter.unusedSimpArgs false
set_option linter.unusedVariables false
namespace Go.Proofs.YtebmimnglcdogaaGreatDoor.Ck
open Go Go.RowKit Go.Proofs Fp
set_option maxRecDepth 100000
end Go.Proofs.YtebmimnglcdogaaGreatDoor.Ck
