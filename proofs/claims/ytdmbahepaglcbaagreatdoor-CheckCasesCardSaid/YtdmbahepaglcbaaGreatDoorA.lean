/- What tells that core is of no type: must; the panic with none. No condition. -/
import Derived.Test.YtdmbahepaglcbaaGreatDoorS1
import Derived.WalkKit
import Derived.WalkSmall
set_option linter.unusedSimpArgs false
set_option linter.unusedVariables false
namespace Go.Proofs.YtdmbahepaglcbaaGreatDoor
open Go Go.RowKit Go.Proofs Fp
set_option maxRecDepth 100000
abbrev jS:Value := .iface 119 (.agg #[])
theorem zQ6 (w:World):Calls Tryz.prog 78 #[.bool false] w fun e w'=>e = .panicked (zJ5 jS)/\w'=w:=by
 have mixed:=mixed
 go_enter Tryz.func78,Tryz.ntmps78
 go_wp2
 exact⟨rfl,rfl,rfl⟩
theorem zWT:wM Tryz.prog 78 [.sb false] jS:=by
 refine⟨78,#[],#[],rfl,⟨Tryz.f78,Tryz.func78,rfl,rfl⟩,fun F w vs hfr ha=>?_⟩;have hlen:=ha.len
 match vs,hlen with
 | [v],_ =>
  have hv:=(ha.rep 0 v _ rfl rfl).sb_eq;subst hv;rw[show ((#[]:Array Value)++[Value.bool false].toArray ++ #[]) = #[.bool false] by simp];refine (zQ6 w).mono fun e w' hp=>?_;obtain⟨rfl,rfl⟩:=hp;exact⟨rfl,Below.refl _ _⟩
theorem zXK:zC Tryz.prog 78 [.sb true] (.tup []):=by
 refine zB ttok mixed Tryz.func78 rfl (by rfl) (Nat.le_of_ble_eq_true rfl) (by kernel_rfl) ?_;refine⟨fun h=>absurd h (by decide),fun _=>?_⟩;exact rfl
end Go.Proofs.YtdmbahepaglcbaaGreatDoor
