/- The document's small functions: Few, more, Fresh, typed. No condition but on lengths. -/
import Derived.Test.YtgonkhaebmfgiaaGreatDoorR
import Derived.Test.YtgonkhaebmfgiaaGreatDoorN
import Derived.Test.YtgonkhaebmfgiaaGreatDoorB
import Derived.Test.YtgonkhaebmfgiaaGreatDoorRA
set_option linter.unusedSimpArgs false
set_option linter.unusedVariables false
namespace Go.Proofs.YtgonkhaebmfgiaaGreatDoor
open Go Fp
set_option maxRecDepth 10000
set_option maxHeartbeats 8000000
set_option linter.unusedVariables false
theorem zZF {c:Cr} (hn:c.isN=true) (ho:c.Ok):c.kids.length=Cr.nk c.f:=by
 cases c with
 | node f n s t g=>exact ho.2.2.2.1
 | _=>cases hn
theorem wL {c:Cr} (hn:c.isN=true) (ho:c.Ok):zF Tryz.prog zHJ [eC c] (.sb false):=by
 have hk:=zZF hn ho;have hl:(c.e3 0).length=Cr.nk c.f:=by rw[z3Z,hk]
 refine zEO ttok mixed Tryz.func59 rfl (by rfl) (Nat.le_of_ble_eq_true rfl) (by kernel_rfl) ?_;refine Wsem.seq ttok mixed ?_;refine Wsem.seq ttok mixed ?_;refine Wsem.cut {vs:=[(1,.box 0 (eC c)),(3,sv (Cr.nk c.f:Nat))]} ⟨⟨rfl,svc (by rw[hl]),trivial⟩,trivial,rfl⟩ ?_;refine Wsem.seq ttok mixed ?_;refine⟨fun h4=>?_,fun h4=>?_⟩
 ·have h4:¬c.f=4:=of_decide_eq_false h4;refine⟨fun h10=>?_,fun h10=>?_⟩
  ·have h10:c.f=10:=of_decide_eq_true h10;rw[show Cr.nk c.f=2 by rw[h10];rfl];exact rfl
  ·have h10:¬c.f=10:=of_decide_eq_false h10;refine Wsem.cut {vs:=[(1,.box 0 (eC c)),(3,sv (Cr.nk c.f:Nat))]} ⟨⟨rfl,rfl,trivial⟩,trivial,rfl⟩ ?_;have yes:(c.f=5∨c.f=6∨c.f=7∨c.f=8∨c.f=9)->Cr.nk c.f=1:=fun h=>by unfold Cr.nk;rw[if_neg (by omega),if_pos h]
   have tail:∀b:Bool,(b=true->Cr.nk c.f=1)->Wsem Tryz.prog (sn4 (bodyC Tryz.f59)) (mkC {vs:=[(3,sv (Cr.nk c.f:Nat)),(4,.v (.sb b))]}) (fun c2=>zN9 tt Tryz.f59.results.toList (.sb false) (den c2)) (fun _ _=>False) (fun c2=>zN9 tt Tryz.f59.results.toList (.sb false) (den c2)):=by
    intro b hb;refine Wsem.of ttok mixed ?_;refine⟨fun h=>?_,fun h=>?_⟩
    ·rw[hb h];exact rfl
    ·exact rfl
   refine Wsem.seq ttok mixed ?_;refine⟨fun h5=>?_,fun h5=>?_⟩
   ·refine⟨fun h6=>?_,fun h6=>?_⟩
    ·refine⟨fun h7=>?_,fun h7=>?_⟩
     ·refine⟨fun h8=>?_,fun h8=>?_⟩
      ·refine Wsem.cut _ ?_ (tail (decide (c.f=9)) fun h=>yes (.inr (.inr (.inr (.inr (of_decide_eq_true h))))));exact⟨⟨rfl,rfl,trivial⟩,trivial,rfl⟩
      ·refine Wsem.cut _ ?_ (tail true fun _=>yes (.inr (.inr (.inr (.inl (of_decide_eq_true h8))))));exact⟨⟨rfl,rfl,trivial⟩,trivial,rfl⟩
     ·refine Wsem.cut _ ?_ (tail true fun _=>yes (.inr (.inr (.inl (of_decide_eq_true h7)))));exact⟨⟨rfl,rfl,trivial⟩,trivial,rfl⟩
    ·refine Wsem.cut _ ?_ (tail true fun _=>yes (.inr (.inl (of_decide_eq_true h6))));exact⟨⟨rfl,rfl,trivial⟩,trivial,rfl⟩
   ·refine Wsem.cut _ ?_ (tail true fun _=>yes (.inl (of_decide_eq_true h5)));exact⟨⟨rfl,rfl,trivial⟩,trivial,rfl⟩
 ·have h4:c.f=4:=of_decide_eq_true h4;rw[show Cr.nk c.f=2 by rw[h4];rfl];exact rfl
set_option maxHeartbeats 16000000
end Go.Proofs.YtgonkhaebmfgiaaGreatDoor
