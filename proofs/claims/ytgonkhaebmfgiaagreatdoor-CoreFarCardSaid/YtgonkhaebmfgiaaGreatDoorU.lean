/- What is free in what is put together; how much types there are. Plain; the law's lists. No condition. -/
import Derived.Test.YtgonkhaebmfgiaaGreatDoorR
import Derived.Test.YtgonkhaebmfgiaaGreatDoorN
import Derived.Test.YtgonkhaebmfgiaaGreatDoorO
set_option linter.unusedSimpArgs false
set_option linter.unusedVariables false
namespace Go.Proofs.YtgonkhaebmfgiaaGreatDoor
open Go Fp
set_option maxRecDepth 10000
set_option maxHeartbeats 8000000
set_option linter.unusedVariables false
def zb:Db->Nat
 | .app a b=>1+zb a+zb b
 | .all a=>1+zb a
 | _=>1
theorem z5X (t:Tp):∀e,zb (db t e)=t.sz:=by
 induction t with
 | app a b iha ihb=>intro e;simp only[db,zb,Tp.sz,iha,ihb]
 | all s a ih=>intro e;simp only[db,zb,Tp.sz,ih]
 | var s=>intro e;simp only[db,Tp.sz];split<;>rfl
 | _=>intro e;rfl
def tnD:DC->Nat
 | .nil=>0
 | .bv _=>1
 | .fr _=>1
 | .node _ _ _ t g=>zb t+tnD g
 | .kid p r=>tnD p+tnD r
 | .bind t p r=>zb t+tnD p+tnD r
 | .alt _ _ _ _ p r=>tnD p+tnD r
theorem zOY (c:Cr):∀(e d:List ByteArray),c.Ok->tnD (dbc c e d)=c.tn:=by
 induction c with
 | nil=>intro e d _;rfl
 | node f n s t g ih =>
  intro e d ho;by_cases hf:f=1
  ·obtain⟨h1,h2⟩:=ho.2.1 hf;subst h1;subst h2;subst hf;rw[zHE];split<;>rfl
  ·rw[dbc,if_neg hf];simp only[tnD,z5X,Cr.tn,ih _ _ (zY ho).2]
 | kid p r ihp ihr=>intro e d ho;simp only[dbc,tnD,Cr.tn,ihp _ _ ho.2.2.1,ihr _ _ ho.2.2.2]
 | bind x t p r ihp ihr=>intro e d ho;simp only[dbc,tnD,Cr.tn,z5X,ihp _ _ ho.2.2.2.1,ihr _ _ ho.2.2.2.2]
 | alt f n s vs p r ihp ihr=>intro e d ho;simp only[dbc,tnD,Cr.tn,ihp _ _ ho.2.2.2.2.2.1,ihr _ _ ho.2.2.2.2.2.2]
theorem z6A (d:DC) (x:ByteArray) (b:DC) (σ:ByteArray->DC) (hx:σ x=b) (ho:∀y,y≠x->σ y = .fr y):tnD (sbD σ .fr d)+yK d x=tnD d+yK d x*tnD b:=by
 induction d with
 | fr s =>
  by_cases hs:s=x
  ·subst hs;simp only[sbD,hx,yK,tnD,if_pos];omega
  ·simp only[sbD,ho s hs,yK,tnD,if_neg (Ne.symm hs)];omega
 | node f n s t g ih=>simp only[sbD,yK,tnD,zCX];omega
 | kid p r ihp ihr=>simp only[sbD,yK,tnD,Nat.add_mul];omega
 | bind t p r ihp ihr=>simp only[sbD,yK,tnD,zCX,Nat.add_mul];omega
 | alt f n s k p r ihp ihr=>simp only[sbD,yK,tnD,Nat.add_mul];omega
 | _=>simp[sbD,yK,tnD]
theorem z0I (D:DC) (σ:ByteArray->DC) (y:ByteArray):qF (sbD σ .fr D) y↔qF D y∨∃z,0<yK D z/\qF (σ z) y:=by
 induction D with
 | nil=>simp[sbD,qF,yK]
 | bv i=>simp[sbD,qF,yK]
 | fr s =>
  simp only[sbD,qF,yK];constructor
  ·intro h;exact .inr ⟨s,by simp,h⟩
  ·rintro (h|⟨z,h1,h2⟩)
   ·cases h
   ·by_cases hz:z=s
    ·subst hz;exact h2
    ·simp[hz] at h1
 | node f n s t g ih=>simp only[sbD,qF,yK,zCX,ih,or_assoc]
 | kid p r ihp ihr =>
  simp only[sbD,qF,yK,ihp,ihr];constructor
  ·rintro ((h|⟨z,h1,h2⟩)|(h|⟨z,h1,h2⟩))
   ·exact .inl (.inl h)
   ·exact .inr ⟨z,by omega,h2⟩
   ·exact .inl (.inr h)
   ·exact .inr ⟨z,by omega,h2⟩
  ·rintro ((h|h)|⟨z,h1,h2⟩)
   ·exact .inl (.inl h)
   ·exact .inr (.inl h)
   ·by_cases hz:0<yK p z
    ·exact .inl (.inr ⟨z,hz,h2⟩)
    ·exact .inr (.inr ⟨z,by omega,h2⟩)
 | bind t p r ihp ihr =>
  simp only[sbD,qF,yK,ihp,ihr,zCX];constructor
  ·rintro (h|(h|⟨z,h1,h2⟩)|(h|⟨z,h1,h2⟩))
   ·exact .inl (.inl h)
   ·exact .inl (.inr (.inl h))
   ·exact .inr ⟨z,by omega,h2⟩
   ·exact .inl (.inr (.inr h))
   ·exact .inr ⟨z,by omega,h2⟩
  ·rintro ((h|h|h)|⟨z,h1,h2⟩)
   ·exact .inl h
   ·exact .inr (.inl (.inl h))
   ·exact .inr (.inr (.inl h))
   ·by_cases hz:0<yK p z
    ·exact .inr (.inl (.inr ⟨z,hz,h2⟩))
    ·exact .inr (.inr (.inr ⟨z,by omega,h2⟩))
 | alt f n s k p r ihp ihr =>
  simp only[sbD,qF,yK,ihp,ihr];constructor
  ·rintro ((h|⟨z,h1,h2⟩)|(h|⟨z,h1,h2⟩))
   ·exact .inl (.inl h)
   ·exact .inr ⟨z,by omega,h2⟩
   ·exact .inl (.inr h)
   ·exact .inr ⟨z,by omega,h2⟩
  ·rintro ((h|h)|⟨z,h1,h2⟩)
   ·exact .inl (.inl h)
   ·exact .inr (.inl h)
   ·by_cases hz:0<yK p z
    ·exact .inl (.inr ⟨z,hz,h2⟩)
    ·exact .inr (.inr ⟨z,by omega,h2⟩)
section
variable {c b:Cr} {x:ByteArray} (hc:Sm c) (hb:Sm b)
include hc hb
end
set_option maxHeartbeats 16000000
end Go.Proofs.YtgonkhaebmfgiaaGreatDoor
