/- tried: what is done is done, or tells that there is no type. No condition. -/
import Derived.Test.YtdmbahepaglcbaaGreatDoorM
import Derived.Tactics
import Derived.Tactics2
import Derived.Defers
import Derived.Recover
import Derived.Laws.Pointers
import Derived.RowKit3
import Derived.Lib.SliceRun
set_option linter.unusedSimpArgs false
set_option linter.unusedVariables false
set_option maxHeartbeats 8000000
namespace Go.Proofs.YtdmbahepaglcbaaGreatDoor
open Go Go.RowKit Go.Proofs Fp
set_option maxRecDepth 100000
set_option linter.unusedSimpArgs false
theorem catch_panicking (p:Addr) (x:Int) (older:List PanicEntry) (w:World) (hc:w.cell? p=some (.int .i64 x)) (hz:w.frozen? p=false) :
  CallsD Tryz.prog 76 #[.pointer (some p)] (.panicking ({v:=wJ,recovered:=false} :: older)) w fun e u' w' =>
   e = .returned (.tuple #[])/\u' = .panicking ({v:=wJ,recovered:=true} :: older)/\w'=(w.alloc (.cells #[] 119)).setCell p (.int .i64 50):=by
 have hta:∀w,(Instr.typeAssert wJ 20 119 true).run Tryz.prog w = .ok (.tuple #[.agg #[],.bool true]) w:=fun w=>by kernel_rfl
 have hc1:(w.alloc (.cells #[] 119)).cell? p=some (.int .i64 x):=Lib.cell?_alloc_some _ hc;have hz1:(w.alloc (.cells #[] 119)).frozen? p=false:=by rw[frozen?_alloc_cells];exact hz
 refine callsD_of_wpS Tryz.func76 rfl fun c₀ cs hu=>?_;simp only[Tryz.ntmps76,List.size_toArray,List.length_cons,List.length_nil,Nat.reduceAdd,Nat.reduceSub,Array.replicate_succ,Array.replicate_zero,List.push_toArray,List.append_toArray,List.nil_append,List.cons_append];apply wpS_seq;apply wpS_region;simp[wpOpsS,go_sem,recoverD,hu,Exit.thenS];apply wpS_seq;apply wpS_region;simp[wpOpsS,go_sem,recoverD,hu,Exit.thenS];refine wpS_cond (t:=true) (by simp[Act.eval,Array.replicate]) ?_;simp only[if_true];refine wpS_of_wp ?_
 go_wp2
 simp[bodyPostS,results,Tryz.results76]
theorem catch_idle (p:Addr) (w:World) :
  CallsD Tryz.prog 76 #[.pointer (some p)] .returning w fun e u' w'=>e = .returned (.tuple #[])/\u' = .returning/\w'=w:=by
 refine callsD_of_wpS Tryz.func76 rfl fun c₀ cs hu=>?_;apply wpS_seq;apply wpS_region;simp[wpOpsS,go_sem,recoverD,hu,Tryz.ntmps76,Exit.thenS];apply wpS_seq;apply wpS_region;simp[wpOpsS,go_sem,recoverD,hu,Tryz.ntmps76,Exit.thenS];refine wpS_cond (t:=false) (by simp[Act.eval,Array.replicate]) ?_;simp only[Bool.false_eq_true,if_false];refine wpS_of_wp (wp_skip ?_);cases c₀
 simp_all [bodyPostS,results,Tryz.results76]
theorem zOR {n:Nat} (he:Enters Tryz.prog n) (cap:Array Value) (w:World):(callFunc n cap).run Tryz.prog w = .ok (.enter n cap) w:=by
 obtain⟨fn,h1,h2,h3⟩:=he;have h4:fn.body.isNone=false:=by cases hb:fn.body<;>simp[hb] at h2⊢
 have hp:(program).run Tryz.prog w = .ok Tryz.prog w:=rfl;simp only[callFunc,Sem.run_bind,hp,Result.andThen_ok,h1,h3,h4,Bool.false_eq_true,if_false,Sem.run_pure]
theorem zVE {n:Nat} (he:Enters Tryz.prog n) (cap:Array Value) (w:World) {R:World->Prop} (hc:Calls Tryz.prog n cap (w.alloc (.cells #[.int .i64 0] 39)) fun e w'=>e = .returned (.tuple #[])/\w'.heap[w.heap.size]? = some (.cells #[.int .i64 0] 39 (0,0))/\R w') :
  Calls Tryz.prog 40 #[.func (.func n) #[] cap] w fun e w'=>e = .returned (.int .i64 0)/\∃w1,R w1/\w'=w1.setCell ⟨w.heap.size,0,none⟩ (.int .i64 0):=by
 have hmf:∀(fn:Fn) (first cap:Array Value) (w:World),(Instr.makeFunc fn first cap).run Tryz.prog w = .ok (.func fn first cap) w:=fun _ _ _ _=>rfl
 go_enter_defers Tryz.func40,Tryz.ntmps40
 go_wp2
 rw[zOR he,Oper.upon_enter];refine hc.mono fun e w' hp=>?_;obtain⟨rfl,hcell,hR⟩:=hp;rename_i K1 h1 K2 h2;refine h2 _ _ ?_;have hcs:w'.cell? ⟨w.heap.size,0,none⟩=some (.int .i64 0):=by simp[World.cell?,hcell]
 have hfz:w'.frozen? ⟨w.heap.size,0,none⟩=false:=by simp[World.frozen?,hcell]
 go_wp2
 refine leaves_cons (f:=76) (args := #[.pointer (some ⟨w.heap.size,0,none⟩)]) (by simp) (by simp[go_sem]) ?_;refine (catch_idle ⟨w.heap.size,0,none⟩ _).mono ?_;rintro e u' w'' ⟨rfl,rfl,rfl⟩;simp[Leaves,settle,results,Tryz.results40,go_sem,hcs];exact⟨w',hR,rfl⟩
theorem zRG {n:Nat} (he:Enters Tryz.prog n) (cap:Array Value) (w:World) {R:World->Prop} (hc:Calls Tryz.prog n cap (w.alloc (.cells #[.int .i64 0] 39)) fun e w'=>e = .panicked (zLJ wJ)/\w'.heap[w.heap.size]? = some (.cells #[.int .i64 0] 39 (0,0))/\R w') :
  Calls Tryz.prog 40 #[.func (.func n) #[] cap] w fun e w'=>e = .returned (.int .i64 50)/\∃w1,R w1/\w'=(w1.alloc (.cells #[] 119)).setCell ⟨w.heap.size,0,none⟩ (.int .i64 50):=by
 have hmf:∀(fn:Fn) (first cap:Array Value) (w:World),(Instr.makeFunc fn first cap).run Tryz.prog w = .ok (.func fn first cap) w:=fun _ _ _ _=>rfl
 go_enter_defers Tryz.func40,Tryz.ntmps40
 go_wp2
 rw[zOR he,Oper.upon_enter];refine hc.mono fun e w' hp=>?_;obtain⟨rfl,hcell,hR⟩:=hp;have hcs:w'.cell? ⟨w.heap.size,0,none⟩=some (.int .i64 0):=by simp[World.cell?,hcell]
 have hfz:w'.frozen? ⟨w.heap.size,0,none⟩=false:=by simp[World.frozen?,hcell]
 show Leaves _ _ _ _ _ _ _;refine leaves_cons (f:=76) (args := #[.pointer (some ⟨w.heap.size,0,none⟩)]) (by simp) (by simp[go_sem]) ?_;refine (catch_panicking ⟨w.heap.size,0,none⟩ 0 [] _ hcs hfz).mono ?_;rintro e u' w'' ⟨rfl,rfl,rfl⟩;have hc2:(w'.alloc (.cells #[] 119)).cell? ⟨w.heap.size,0,none⟩=some (.int .i64 0):=Lib.cell?_alloc_some _ hcs;simp[Leaves,settle,results,Tryz.results40,go_sem,hc2];exact⟨w',hR,rfl⟩
end Go.Proofs.YtdmbahepaglcbaaGreatDoor
