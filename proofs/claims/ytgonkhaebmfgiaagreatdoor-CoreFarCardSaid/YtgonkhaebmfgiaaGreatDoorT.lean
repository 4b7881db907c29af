/- What is the same has the same names free, in the same row. Plain; SameTexts. No condition. -/
import Derived.Test.YtgonkhaebmfgiaaGreatDoorR
import Derived.Test.YtgonkhaebmfgiaaGreatDoorO
set_option linter.unusedSimpArgs false
set_option linter.unusedVariables false
namespace Go.Proofs.YtgonkhaebmfgiaaGreatDoor
open Go Fp
set_option maxRecDepth 10000
set_option maxHeartbeats 4000000
set_option linter.unusedVariables false
theorem zaB (c:Cr):c.Pk->∀y∈c.fv,y∈W18:=by
 induction c with
 | nil=>intro _ y hy;cases hy
 | node f n s t g ih =>
  intro h y hy;by_cases hf:f=1
  ·subst hf;rw[zDS] at hy;rw[List.mem_singleton.1 hy];exact h.2.2.1
  ·exact ih h.2.2.2.2 y ((wF hf).1 hy).1
 | kid p r ihp ih=>intro h y hy;exact (mem_fv_kid.1 hy).elim (ihp h.1 y) (ih h.2 y)
 | bind x t p r ihp ih=>intro h y hy;exact (mem_fv_bind.1 hy).elim (ihp h.2.2.1 y) (ih h.2.2.2 y)
 | alt f n s vs p r ihp ih=>intro h y hy;exact (mem_fv_alt.1 hy).elim (fun h2=>ihp h.2.2.2.2.1 y h2.1) (ih h.2.2.2.2.2 y)
set_option maxHeartbeats 16000000
end Go.Proofs.YtgonkhaebmfgiaaGreatDoor
