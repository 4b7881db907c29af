/- strings.Join, by the library's contract. -/
import Derived.Test.YtkhnjmbgkakngaaGreatDoorS1
import Derived.Shelf.Lay
import Derived.Ground.NamesProg
import Derived.Shelf.Strings.OnBuilder
set_option linter.unusedSimpArgs false
set_option linter.unusedVariables false
namespace Go.Proofs.YtkhnjmbgkakngaaGreatDoor
open Go Go.RowKit Go.Shelf Go.Proofs
set_option maxRecDepth 100000

shelf_lay Lays.n156 Nm 156 at Tryz as Tryz.laysJoin
theorem Tryz.extra : Builder.Extra Tryz.prog Tryz.laysJoin_ren where
  sizeBuilder := by kernel_rfl
  liesBuilder := by kernel_rfl
  t5 := Tryz.underlying5
  a5 := Tryz.isAgg5
  z5 := Tryz.sizeOf5
  v5 := Tryz.zeroValue5
  infoByte := by kernel_rfl
  cellsByte := by kernel_rfl
  sizeByte := by kernel_rfl
  neB5 := by decide
theorem join_none (a : Option Addr) (c : Nat) (sep : ByteArray) (w : World) :
    Calls Tryz.prog 41 #[.slice a 0 c, .string sep] w fun e w' => e = .returned (.string ⟨#[]⟩) ∧ w' = w := Any.strings_Join_none Tryz.laysJoin Tryz.extra a c sep w
theorem join_calls (bk o c : Nat) (xs : List ByteArray) (sep : ByteArray) (w : World) (hcells : ∀ (j : Nat) x, xs[j]? = some x → w.cell? ⟨bk, o + j, none⟩ = some (.string x)) (hbk : bk < w.heap.size) (hN : xs.length ≤ 140737488355328) (hcap : xs.length ≤ c) (hlen : (Lib.join (xs.map (·.data.toList)) sep.data.toList).length ≤ 140737488355328) :
    Calls Tryz.prog 41 #[.slice (some ⟨bk, o, none⟩) xs.length c, .string sep] w fun e w' => e = .returned (.string ⟨(Lib.join (xs.map (·.data.toList)) sep.data.toList).toArray⟩) ∧ Below w.heap.size w w' := Any.strings_Join Tryz.laysJoin Tryz.extra bk o c xs sep w hcells hbk hN hcap hlen
end Go.Proofs.YtkhnjmbgkakngaaGreatDoor
