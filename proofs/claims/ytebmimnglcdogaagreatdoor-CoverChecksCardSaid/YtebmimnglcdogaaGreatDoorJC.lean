/- A part of the proof of a given statement: contracts of functions of the program, under no condition but those that each states. -/
import Derived.Test.YtebmimnglcdogaaGreatDoorS1
import Derived.Test.YtebmimnglcdogaaGreatDoorFpE
import Derived.Test.YtebmimnglcdogaaGreatDoorCards
import Derived.Test.YtebmimnglcdogaaGreatDoorTie
import Derived.Lib.LaidTab
set_option linter.unusedSimpArgs false
set_option linter.unusedVariables false
namespace Go.Proofs.YtebmimnglcdogaaGreatDoor
open Go Fp Go.ChangeShapes Go.WideShapes Go.ChangeAt Go.RowKit
theorem z5O:ownKnob Tryz.prog.godebug=none:=by kernel_rfl
theorem zX3:laidOutB Tryz.prog=true:=by kernel_rfl
theorem u22:Tryz.prog.underlying 22=some (.slice 3):=by kernel_rfl
theorem u3:Tryz.prog.underlying 3=some (.int .i64):=by kernel_rfl
theorem u4:Tryz.prog.underlying 4=some .bool:=by kernel_rfl
theorem c3:Tryz.prog.cellsOf 3=1:=by kernel_rfl
def zIM (d:DataW Unit):Array Value:=match d with
 | .agg l=>(l.map fun | .lit (.int k n)=>Value.int k n|_=>undef).toArray
 | _ => #[]
def zS8 (h:Array Obj) (g:Nat) (cs:Array Value):Array Obj:=h.modify g fun
 | .cells _ t frozen => .cells cs t frozen
 | o=>o
noncomputable def laidWorld (os:Os):World :=
 {World.holding Tryz.prog os ⟨#[],#[],[]⟩ with heap:=zS8 (zS8 (zS8 (World.holding Tryz.prog os ⟨#[],#[],[]⟩).heap 0 (zIM Rows.laid_internal_strconv_uint64pow10)) 1 (zIM Rows.laid_math_bits_deBruijn32tab)) 2 (zIM Rows.laid_math_bits_deBruijn64tab)}
end Go.Proofs.YtebmimnglcdogaaGreatDoor
