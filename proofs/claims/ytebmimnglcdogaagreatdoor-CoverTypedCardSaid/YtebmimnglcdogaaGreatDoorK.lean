/- A map copied. No condition. -/
import Derived.Test.YtebmimnglcdogaaGreatDoorI
import Derived.Laws.Externs
import Derived.MapKept
import Derived.WalkKit
set_option linter.unusedSimpArgs false
set_option linter.unusedVariables false
namespace Go.Proofs.YtebmimnglcdogaaGreatDoor.Ck
open Go Fp
set_option maxRecDepth 10000
set_option maxHeartbeats 16000000
set_option linter.unusedVariables false
set_option linter.unusedSimpArgs false
section
variable {P:Program} (w:World)
theorem run_equalIn_map_nil (d:Nat) (t k e:TypeId) (p:Option Nat) (h:P.underlying t=some (.map k e)) :
  (Op.equalIn (d+1) t (.map p) (.map none)).run P w = .ok p.isNone w:=by
 cases p<;>simp[Op.equalIn,run_underlying h]
theorem run_eql_map_nil (t k e:TypeId) (p:Option Nat) (h:P.underlying t=some (.map k e)) :
  (binOp .eql t (.map p) (.map none)).run P w = .ok (.bool p.isNone) w:=by
 simp only[binOp];simp[show Op.equal t (.map p) (.map none)=Op.equalIn (9999+1) t (.map p) (.map none) from rfl,run_equalIn_map_nil w 9999 t k e p h]
theorem zDH (t xT k e:TypeId) (v:Value) (h:P.underlying t=some (.map k e)):(Instr.typeAssert (.iface t v) xT t false).run P w = .ok v w:=by
 simp[Instr.typeAssert,run_underlying h,go_sem,Result.andThen]
theorem zIA {r:Nat} {es:Array MapEntry} {clock:Nat} (t:TypeId) (hb:w.heap[r]? = some (.map es clock)) :
  (Extern.MapsClone.clone #[.iface t (.map (some r))]).run P w = .ok (.iface t (.map (some w.heap.size))) (w.alloc (.map es clock)):=by
 have e:Extern.MapsClone.clone #[.iface t (.map (some r))]=(getObj r >>= fun o=>match o with
   | .map entries clock=>(newObj (.map entries clock) >>= fun n=>pure (.iface t (.map (some n))))
   | _ => stuck "maps.clone: a map expected") := rfl
 rw[e];simp[MapKept.run_getObj_map hb,Result.andThen,go_sem]
end
theorem zLN (b:Nat) (es:Array MapEntry) (clock:Nat) (w:World) (hb:w.heap[b]? = some (.map es clock)) :
  Calls Tryz.prog 115 #[.map (some b)] w fun e w'=>e = .returned (.map (some w.heap.size))/\w'=w.alloc (.map es clock):=by
 have hq:=fun w=>run_eql_map_nil (P:=Tryz.prog) w 93 3 37 (some b) (by kernel_rfl)
 go_enter Tryz.func115,Tryz.ntmps115
 go_wp2
 rw[run_callFunc_extern Tryz.func132 (by kernel_rfl) (by kernel_rfl) (by kernel_rfl) (e:=Extern.MapsClone.clone) (by kernel_rfl),zIA w 93 hb];simp only[Result.andThen];rw[Oper.upon_value]
 go_wp2
 rw[zDH _ 93 20 3 37 _ (by kernel_rfl)];simp only[Result.andThen];rw[Oper.upon_value]
 go_wp2
 go_ret
 exact⟨rfl,rfl⟩
end Go.Proofs.YtebmimnglcdogaaGreatDoor.Ck
