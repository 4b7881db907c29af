/- tried: what is done is done, or tells that there is no type. No condition. -/
import Derived.Test.YtebmimnglcdogaaGreatDoorH
import Derived.Tactics
import Derived.Tactics2
import Derived.Defers
import Derived.Recover
import Derived.Laws.Pointers
import Derived.RowKit3
import Derived.Lib.SliceRun
set_option linter.unusedSimpArgs false
set_option linter.unusedVariables false
set_option maxHeartbeats 8000000
namespace Go.Proofs.YtebmimnglcdogaaGreatDoor.Ck
open Go Go.RowKit Go.Proofs Fp
set_option maxRecDepth 100000
set_option linter.unusedSimpArgs false
theorem catch_idle (p:Addr) (w:World) :
  CallsD Tryz.prog 80 #[.pointer (some p)] .returning w fun e u' w'=>e = .returned (.tuple #[])/\u' = .returning/\w'=w:=by
 refine callsD_of_wpS Tryz.func80 rfl fun c₀ cs hu=>?_;apply wpS_seq;apply wpS_region;simp[wpOpsS,go_sem,recoverD,hu,Tryz.ntmps80,Exit.thenS];apply wpS_seq;apply wpS_region;simp[wpOpsS,go_sem,recoverD,hu,Tryz.ntmps80,Exit.thenS];refine wpS_cond (t:=false) (by simp[Act.eval,Array.replicate]) ?_;simp only[Bool.false_eq_true,if_false];refine wpS_of_wp (wp_skip ?_);cases c₀
 simp_all [bodyPostS,results,Tryz.results80]
theorem zVQ {n:Nat} (he:Enters Tryz.prog n) (cap:Array Value) (w:World):(callFunc n cap).run Tryz.prog w = .ok (.enter n cap) w:=by
 obtain⟨fn,h1,h2,h3⟩:=he;have h4:fn.body.isNone=false:=by cases hb:fn.body<;>simp[hb] at h2⊢
 have hp:(program).run Tryz.prog w = .ok Tryz.prog w:=rfl;simp only[callFunc,Sem.run_bind,hp,Result.andThen_ok,h1,h3,h4,Bool.false_eq_true,if_false,Sem.run_pure]
theorem zRS {n:Nat} (he:Enters Tryz.prog n) (cap:Array Value) (w:World) {R:World->Prop} (hc:Calls Tryz.prog n cap (w.alloc (.cells #[.int .i64 0] 44)) fun e w'=>e = .returned (.tuple #[])/\w'.heap[w.heap.size]? = some (.cells #[.int .i64 0] 44 (0,0))/\R w') :
  Calls Tryz.prog 44 #[.func (.func n) #[] cap] w fun e w'=>e = .returned (.int .i64 0)/\∃w1,R w1/\w'=w1.setCell ⟨w.heap.size,0,none⟩ (.int .i64 0):=by
 have hmf:∀(fn:Fn) (first cap:Array Value) (w:World),(Instr.makeFunc fn first cap).run Tryz.prog w = .ok (.func fn first cap) w:=fun _ _ _ _=>rfl
 go_enter_defers Tryz.func44,Tryz.ntmps44
 go_wp2
 rw[zVQ he,Oper.upon_enter];refine hc.mono fun e w' hp=>?_;obtain⟨rfl,hcell,hR⟩:=hp;rename_i K1 h1 K2 h2;refine h2 _ _ ?_;have hcs:w'.cell? ⟨w.heap.size,0,none⟩=some (.int .i64 0):=by simp[World.cell?,hcell]
 have hfz:w'.frozen? ⟨w.heap.size,0,none⟩=false:=by simp[World.frozen?,hcell]
 go_wp2
 refine leaves_cons (f:=80) (args := #[.pointer (some ⟨w.heap.size,0,none⟩)]) (by simp) (by simp[go_sem]) ?_;refine (catch_idle ⟨w.heap.size,0,none⟩ _).mono ?_;rintro e u' w'' ⟨rfl,rfl,rfl⟩;simp[Leaves,settle,results,Tryz.results44,go_sem,hcs];exact⟨w',hR,rfl⟩
end Go.Proofs.YtebmimnglcdogaaGreatDoor.Ck
