/- What is given types. No condition but on lengths. -/
import Derived.Test.YtebmimnglcdogaaGreatDoorM
set_option linter.unusedSimpArgs false
set_option linter.unusedVariables false
namespace Go.Proofs.YtebmimnglcdogaaGreatDoor.Ck
open Go Fp
set_option maxRecDepth 100000
set_option maxHeartbeats 8000000
theorem appT_ok (f:Tp) (l:List Tp) (hl:l.length<4294967296):zB Tryz.prog zQS [eTy f,.sl (zQ l)] (eTy (appAllT f l)):=by
 refine zD ttok mixed Tryz.func114 rfl (by rfl) (Nat.le_of_ble_eq_true rfl) (by kernel_rfl) ?_;refine .inl ⟨_,qN f,?_⟩;have hlen:(zQ l).length=l.length:=by simp[zQ]
 refine⟨{k:Nat // k<=l.length},fun k=>{vs:=[(4,.box 0 (eTy .no)),(5,.box 0 (eTy (appAllT f (l.take k.1)))),(10,.v (.sl (zQ l))),(11,.v (.lit (.int .i64 ((zQ l).length:Nat)))),(12,.v (.lit (.int .i64 (k.1:Nat))))]},
  fun k=>l.length-k.1,⟨0,Nat.zero_le _⟩,⟨⟨rfl,rfl,rfl,rfl,rfl,trivial⟩,trivial,rfl⟩,?_⟩
 rintro⟨k,hk⟩;refine⟨fun h=>?_,fun h=>?_⟩
 ·have h:k<l.length:=by simp[hlen] at h;omega
  refine⟨eTy l[k],by simp,zNL h,rfl,?_⟩;refine .inl ⟨_,qN _,?_⟩;refine .inl ⟨_,zFN _ _,?_⟩;refine⟨⟨k+1,h⟩,(show l.length-(k+1)<l.length-k by omega),⟨rfl,?_,rfl,rfl,?_,trivial⟩,trivial,rfl⟩
  ·show SV.box 0 (eTy (.app (appAllT f (l.take k)) l[k]))=SV.box 0 (eTy (appAllT f (l.take (k+1))));rw[List.take_succ_eq_append_getElem h];unfold appAllT;rw[List.foldl_append];rfl
  ·exact congrArg (fun l=>SV.v (AV.lit (Value.int .i64 l))) (wrap_succ (k:=k) (by omega))
 ·have h:k=l.length:=by simp[hlen] at h;omega
  subst h;show eTy (appAllT f (l.take l.length))=_;rw[List.take_length]
end Go.Proofs.YtebmimnglcdogaaGreatDoor.Ck
