/- What tells that core is of no type: must; the panic with none. No condition. -/
import Derived.Test.YtdmbahepaglcbaaGreatDoorS1
import Derived.WalkKit
import Derived.WalkSmall
set_option linter.unusedSimpArgs false
set_option linter.unusedVariables false
namespace Go.Proofs.YtdmbahepaglcbaaGreatDoor
open Go Go.RowKit Go.Proofs Fp
set_option maxRecDepth 100000
abbrev wJ:Value := .iface 119 (.agg #[])
theorem zWQ (w:World):Calls Tryz.prog 78 #[.bool false] w fun e w'=>e = .panicked (zLJ wJ)/\w'=w:=by
 have mixed:=mixed
 go_enter Tryz.func78,Tryz.ntmps78
 go_wp2
 exact⟨rfl,rfl,rfl⟩
theorem z1Y:yS Tryz.prog 78 [.sb false] wJ:=by
 refine⟨78,#[],#[],rfl,⟨Tryz.f78,Tryz.func78,rfl,rfl⟩,fun F w vs hfr ha=>?_⟩;have hlen:=ha.len
 match vs,hlen with
 | [v],_ =>
  have hv:=(ha.rep 0 v _ rfl rfl).sb_eq;subst hv;rw[show ((#[]:Array Value)++[Value.bool false].toArray ++ #[]) = #[.bool false] by simp];refine (zWQ w).mono fun e w' hp=>?_;obtain⟨rfl,rfl⟩:=hp;exact⟨rfl,Below.refl _ _⟩
theorem z5E:zF Tryz.prog 78 [.sb true] (.tup []):=by
 refine zG ttok mixed Tryz.func78 rfl (by rfl) (Nat.le_of_ble_eq_true rfl) (by kernel_rfl) ?_;refine⟨fun h=>absurd h (by decide),fun _=>?_⟩;exact rfl
theorem zY0 {P:Program} {t:Nat} (hu:∀(v:Value) (w:World),(Instr.makeInterface t v).run P w = .ok (.iface t v) w) (hz:∀w,(Instr.build t #[]).run P w = .ok (.agg #[]) w) {arr:Array Oper} {o1 o2 o3:Oper} {i j:Nat} (g1:o1.guard=none) (g2:o2.guard=none) (g3:o3.guard=none)
  (h1:o1.op = .build t #[]) (h2:o2.op = .makeInterface t (.tmp i)) (h3:o3.op = .panic (.tmp j)) (d1:o1.dst=some i) (d2:o2.dst=some j) {a:Act} {w:World} (hi:i<a.tmps.size) (hj:j<a.tmps.size)
  {Q:Exit->Act->World->Prop} (hQ:∀a',a'.defers=a.defers->Q (.panic (zLJ (.iface t (.agg #[])))) a' w):wpList P arr Q [o1,o2,o3] a w:=by
 have w1:∀y,Region.wanted o1 y=true:=fun y=>by unfold Region.wanted;rw[g1]
 have w2:∀y,Region.wanted o2 y=true:=fun y=>by unfold Region.wanted;rw[g2]
 have w3:∀y,Region.wanted o3 y=true:=fun y=>by unfold Region.wanted;rw[g3]
 have e1:(execOp a.eval o1).run P w = .ok (.value (.agg #[])) w:=by
  unfold execOp;simp only[h1,Array.map_empty,Sem.run_bind,hz,Result.andThen_ok,Sem.run_pure]
 have e2:(execOp (a.put (some i) (.agg #[])).eval o2).run P w = .ok (.value (.iface t (.agg #[]))) w:=by
  unfold execOp;have:(a.put (some i) (.agg #[])).eval (.tmp i) = .agg #[]:=by simp[Act.eval,Act.put,hi]
  simp only[h2,this,Sem.run_bind,hu,Result.andThen_ok,Sem.run_pure]
 have e3:(execOp ((a.put (some i) (.agg #[])).put (some j) (.iface t (.agg #[]))).eval o3).run P w = .halt (.panic (.iface t (.agg #[]))) w:=by
  unfold execOp;have:((a.put (some i) (.agg #[])).put (some j) (.iface t (.agg #[]))).eval (.tmp j) = .iface t (.agg #[]):=by simp[Act.eval,Act.put,hj]
  simp only[h3,this,Sem.run_bind,run_panic_iface]
  rfl
 unfold wpList;rw[if_pos (w1 _)];refine .inl ?_;unfold Oper.wp;rw[e1,Oper.upon_value,d1];unfold wpList;rw[if_pos (w2 _)];refine .inl ?_;unfold Oper.wp;rw[e2,Oper.upon_value,d2];unfold wpList;rw[if_pos (w3 _)];refine .inl ?_;unfold Oper.wp;rw[e3,Oper.upon_panic];exact hQ _ rfl
theorem zJ0 {id:Nat} {arr:Array Oper} {o1 o2 o3:Oper} {i j:Nat} {c:CE} {n:CE->Prop} {x:Nat->CE->Prop} {r:CE->Prop} (ha:arr.toList=[o1,o2,o3]) (g1:o1.guard=none) (g2:o2.guard=none) (g3:o3.guard=none)
  (h1:o1.op = .build 119 #[]) (h2:o2.op = .makeInterface 119 (.tmp i)) (h3:o3.op = .panic (.tmp j)) (d1:o1.dst=some i) (d2:o2.dst=some j):WsemQ wJ Tryz.prog (.region id arr false) c n x r:=by
 intro cx hk g a w hR;simp only[zV,ha,List.all_cons,List.all_nil,Bool.and_true,Bool.and_eq_true,d1,d2] at hk;refine wp_region_list ?_;rw[ha];refine zY0 (t:=119) (fun v w=>?_) (fun w=>?_) g1 g2 g3 h1 h2 h3 d1 d2 (by rw[hR.size];exact Nat.le_of_ble_eq_true hk.1) (by rw[hR.size];exact Nat.le_of_ble_eq_true hk.2.1) fun a' hd=>⟨rfl,hd.trans hR.defers,hR.kept⟩
 ·have:(underlying 119).run Tryz.prog w = .ok (.struct #[]) w:=run_underlying Tryz.underlying119 w;unfold Instr.makeInterface;simp only[Sem.run_bind,this,Result.andThen_ok,Sem.run_pure]
 ·kernel_rfl
end Go.Proofs.YtdmbahepaglcbaaGreatDoor
