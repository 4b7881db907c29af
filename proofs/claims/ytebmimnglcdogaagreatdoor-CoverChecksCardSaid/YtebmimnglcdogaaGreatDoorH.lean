/- What tells that core is of no type: must; the panic with none. No condition. -/
import Derived.Test.YtebmimnglcdogaaGreatDoorS1
import Derived.WalkKit
import Derived.WalkSmall
set_option linter.unusedSimpArgs false
set_option linter.unusedVariables false
namespace Go.Proofs.YtebmimnglcdogaaGreatDoor.Ck
open Go Go.RowKit Go.Proofs Fp
set_option maxRecDepth 100000
abbrev z3E:Value := .iface 160 (.agg #[])
theorem zXB:zB Tryz.prog 82 [.sb true] (.tup []):=by
 refine zA ttok mixed Tryz.func82 rfl (by rfl) (Nat.le_of_ble_eq_true rfl) (by kernel_rfl) ?_;refine⟨fun h=>absurd h (by decide),fun _=>?_⟩;exact rfl
end Go.Proofs.YtebmimnglcdogaaGreatDoor.Ck
