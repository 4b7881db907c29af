/- What tells that core is of no type: must; the panic with none. No condition. -/
import Derived.Test.YtdmbahepaglcbaaGreatDoorS1
import Derived.WalkKit
import Derived.WalkSmall
set_option linter.unusedSimpArgs false
set_option linter.unusedVariables false
namespace Go.Proofs.YtdmbahepaglcbaaGreatDoor
open Go Go.RowKit Go.Proofs Fp
set_option maxRecDepth 100000
abbrev zCC:Value := .iface 119 (.agg #[])
theorem zRV (w:World):Calls Tryz.prog 78 #[.bool false] w fun e w'=>e = .panicked (zKN zCC)/\w'=w:=by
 have mixed:=mixed
 go_enter Tryz.func78,Tryz.ntmps78
 go_wp2
 exact⟨rfl,rfl,rfl⟩
theorem zZR:zAK Tryz.prog 78 [.sb false] zCC:=by
 refine⟨78,#[],#[],rfl,⟨Tryz.f78,Tryz.func78,rfl,rfl⟩,fun F w vs hfr ha=>?_⟩;have hlen:=ha.len
 match vs,hlen with
 | [v],_ =>
  have hv:=(ha.rep 0 v _ rfl rfl).sb_eq;subst hv;rw[show ((#[]:Array Value)++[Value.bool false].toArray ++ #[]) = #[.bool false] by simp];refine (zRV w).mono fun e w' hp=>?_;obtain⟨rfl,rfl⟩:=hp;exact⟨rfl,Below.refl _ _⟩
theorem zXI:zC Tryz.prog 78 [.sb true] (.tup []):=by
 refine zA ttok mixed Tryz.func78 rfl (by rfl) (Nat.le_of_ble_eq_true rfl) (by kernel_rfl) ?_;refine⟨fun h=>absurd h (by decide),fun _=>?_⟩;exact rfl
end Go.Proofs.YtdmbahepaglcbaaGreatDoor
