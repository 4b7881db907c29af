/- put: core put into a group, with new names where the old ones are far. No condition but on the parts. -/
import Derived.Test.YtebmimnglcdogaaGreatDoorP
import Derived.Test.YtebmimnglcdogaaGreatDoorFpM
set_option linter.unusedSimpArgs false
set_option linter.unusedVariables false
namespace Go.Proofs.YtebmimnglcdogaaGreatDoor.Ck
open Go Fp
set_option maxRecDepth 10000
set_option maxHeartbeats 16000000
set_option linter.unusedVariables false
set_option linter.unusedSimpArgs false
section
variable {φ:Cr->Cr} {τ:Tp->Tp} {ν:ByteArray->ByteArray} {α:List ByteArray->Cr->List ByteArray×Cr}
end
section
variable {ren:ByteArray->ByteArray->Cr->Cr} {fin:Cr->Cr} {far:List ByteArray} {ps:List Pp}
end
section
variable {ren:ByteArray->ByteArray->Cr->Cr} {fin:Cr->Cr} {far:List ByteArray} {y:ByteArray}
end
section
variable {ren:ByteArray->ByteArray->Cr->Cr} {fin:Cr->Cr} {far:List ByteArray} {ps:List Pp}
end
end Go.Proofs.YtebmimnglcdogaaGreatDoor.Ck
