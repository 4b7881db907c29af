/- A part of the proof of a given statement: contracts of functions of the program, under no condition but those that each states. -/
import Derived.Test.YtebmimnglcdogaaGreatDoorL
set_option linter.unusedSimpArgs false
set_option linter.unusedVariables false
namespace Go.Proofs.YtebmimnglcdogaaGreatDoor.Ck
open Go Fp
set_option maxRecDepth 100000
set_option maxHeartbeats 8000000
def nl:Tp->List ByteArray->ByteArray
 | .mt n,_=>⟨#[63]⟩++dcm n.toNat
 | .var s,x=>if memb s x then ⟨#[35]⟩++dcm (ixN x.reverse s) else ⟨#[39]⟩++s
 | .con s,_=>s
 | .all s a,x=>(⟨#[91]⟩++nl a (x++[s]))++⟨#[93]⟩
 | .app a b,x=>((((⟨#[40]⟩++nl a x)++⟨#[32]⟩)++nl b x)++⟨#[41]⟩)
 | .no,_ => .empty
theorem zN8 {n:Int} (h0 : -1<=n) (h1:n<9223372036854775807):IntKind.i64.wrap n=n:=wrap_in (by unfold InR;omega)
def tk (c:UInt8):Bool:=(48<=c && c<=57) || (65<=c && c<=90) || (97<=c && c<=122)
end Go.Proofs.YtebmimnglcdogaaGreatDoor.Ck
