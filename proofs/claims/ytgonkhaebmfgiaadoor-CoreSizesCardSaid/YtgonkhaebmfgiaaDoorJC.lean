/- A part of the proof of a given statement: contracts of functions of the program, under no condition but those that each states. -/
import Derived.Test.YtgonkhaebmfgiaaDoorS1
import Derived.Test.YtgonkhaebmfgiaaDoorFpM
import Derived.Test.YtgonkhaebmfgiaaDoorCards
import Derived.Test.YtgonkhaebmfgiaaDoorTie
import Derived.Lib.LaidTab
set_option linter.unusedSimpArgs false
set_option linter.unusedVariables false
namespace Go.Proofs.YtgonkhaebmfgiaaDoor
open Go Fp Go.ChangeShapes Go.WideShapes Go.ChangeAt Go.RowKit

theorem ownJ0 : ownKnob Tryd.prog.godebug = none := by kernel_rfl
theorem laidOut0 : laidOutB Tryd.prog = true := by kernel_rfl
theorem u22 : Tryd.prog.underlying 22 = some (.slice 3) := by kernel_rfl
theorem u3 : Tryd.prog.underlying 3 = some (.int .i64) := by kernel_rfl
theorem u4 : Tryd.prog.underlying 4 = some .bool := by kernel_rfl
theorem u23 : Tryd.prog.underlying 23 = some (.array 2 22) := by kernel_rfl
theorem c23 : Tryd.prog.cellsOf 23 = 2 := by kernel_rfl
theorem c22 : Tryd.prog.cellsOf 22 = 1 := by kernel_rfl
theorem c3 : Tryd.prog.cellsOf 3 = 1 := by kernel_rfl

def tabCells (d : DataW Unit) : Array Value := match d with
  | .agg l => (l.map fun | .lit (.int k n) => Value.int k n | _ => undef).toArray
  | _ => #[]
/-- A table is laid. -/
def modTab (h : Array Obj) (g : Nat) (cs : Array Value) : Array Obj := h.modify g fun
  | .cells _ t frozen => .cells cs t frozen
  | o => o
/-- A world for the witness: the settled one, the tables holding what their initialisers lay. -/
noncomputable def laidWorld (os : Os) : World :=
  { World.holding Tryd.prog os ⟨#[], #[], []⟩ with heap := modTab (modTab (modTab (World.holding Tryd.prog os ⟨#[], #[], []⟩).heap 0 (tabCells Rows.laid_internal_strconv_uint64pow10)) 2 (tabCells Rows.laid_math_bits_deBruijn32tab)) 3 (tabCells Rows.laid_math_bits_deBruijn64tab) }

end Go.Proofs.YtgonkhaebmfgiaaDoor
