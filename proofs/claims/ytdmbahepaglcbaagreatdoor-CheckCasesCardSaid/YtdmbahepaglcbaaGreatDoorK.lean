/- SubstType, whole. No condition but that there is little. -/
import Derived.Test.YtdmbahepaglcbaaGreatDoorI
set_option linter.unusedSimpArgs false
set_option linter.unusedVariables false
namespace Go.Proofs.YtdmbahepaglcbaaGreatDoor
open Go Fp
set_option maxRecDepth 10000
set_option maxHeartbeats 16000000
set_option linter.unusedVariables false
set_option linter.unusedSimpArgs false
section
variable {ren:ByteArray->ByteArray->Cr->Cr} {fin:Cr->Cr} {far:List ByteArray} {ps:List Pp}
end
section
variable {ren:ByteArray->ByteArray->Cr->Cr} {fin:Cr->Cr} {far:List ByteArray} {y:ByteArray}
end
section
variable {ren:ByteArray->ByteArray->Cr->Cr} {fin:Cr->Cr} {far:List ByteArray} {ps:List Pp}
end
section
variable {ren:ByteArray->ByteArray->Cr->Cr} {fin:Cr->Cr} {far:List ByteArray} {y:ByteArray}
end
section
variable {N:Nat} {y:ByteArray} {b:Cr}
end
section
variable {N:Nat} {y:ByteArray} {b:Cr}
end
section
variable {N:Nat} {y:ByteArray} {b:Cr} {n:Int} {s:ByteArray} {q:Cr}
end
abbrev mkH (b:Nat) (l:List Int) (n:Int):List (Nat×HO):=[(b,HO.cells [.sl (eIs l),.lit (.int .i64 n)])]
structure Nums (l:List Int):Prop where
 len:l.length<=1000
 inR:∀i∈l,InR i
theorem Nums.drop {l:List Int} (h:Nums l):Nums (l.drop 1):=⟨by have:=h.len;rw[List.length_drop];omega,fun i hi=>h.inR i (List.mem_of_mem_drop hi)⟩
end Go.Proofs.YtdmbahepaglcbaaGreatDoor
