/- tried: what is done is done, or tells that there is no type. No condition. -/
import Derived.Test.YtebmimnglcdogaaGreatDoorQ
import Derived.Tactics
import Derived.Tactics2
import Derived.Defers
import Derived.Recover
import Derived.Laws.Pointers
import Derived.RowKit3
import Derived.Lib.SliceRun
set_option linter.unusedSimpArgs false
set_option linter.unusedVariables false
set_option maxHeartbeats 8000000
namespace Go.Proofs.YtebmimnglcdogaaGreatDoor.Ck
open Go Go.RowKit Go.Proofs Fp
set_option maxRecDepth 100000
set_option linter.unusedSimpArgs false
end Go.Proofs.YtebmimnglcdogaaGreatDoor.Ck
