/- Code within a round of a range over a function. No condition. -/
import Derived.Test.YtebmimnglcdogaaGreatDoorFpJ
import Derived.RangeFuncNested
import Derived.OrdersIn
import Derived.TacticsIn
set_option linter.unusedSimpArgs false
set_option linter.unusedVariables false
namespace Fp
open Go Go.MapKept
section
variable {P:Program} {T:TT} {rd:Option Nat}
end
open Go Go.MapKept Go.ChangeMaps
section
variable {P:Program} {T:TT} {rd:Option Nat}
variable {B:Ctx->Prop}
end
section
variable {P:Program} {T:TT} {rd:Option Nat} {B:Ctx->Prop}
end
section
variable {P:Program} {T:TT} {rd:Option Nat} {B:Ctx->Prop}
end
end Fp
