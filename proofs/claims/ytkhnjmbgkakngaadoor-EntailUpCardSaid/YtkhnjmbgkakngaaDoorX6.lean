/- strings.Join, by the library's contract. -/
import Derived.Test.YtkhnjmbgkakngaaDoorS1
import Derived.Ground.NamesProg
import Derived.Shelf.Strings.OnBuilder
set_option linter.unusedSimpArgs false
set_option linter.unusedVariables false
namespace Go.Proofs.YtkhnjmbgkakngaaDoor
open Go Go.RowKit Go.Shelf Go.Proofs
set_option maxRecDepth 100000

def Tryd.laysJoin_ren : Go.Shelf.Ren := ⟨fun | 156 => 71 | 165 => 87 | 166 => 88 | 169 => 89 | 240 => 93 | 241 => 94 | 276 => 99 | 277 => 100 | n => n, fun | 31 => 51 | 9 => 9 | 3 => 3 | 4 => 4 | 0 => 0 | 20 => 20 | 72 => 164 | 76 => 168 | 70 => 161 | 37 => 162 | 75 => 167 | 127 => 173 | 164 => 180 | 5 => 5 | 80 => 170 | n => n, fun | n => n⟩
theorem Tryd.laysJoin : Go.Proofs.Lays.n156 Tryd.prog Tryd.laysJoin_ren := {
  mixed := by kernel_rfl
  f156 := Tryd.func71.trans (congrArg some (by kernel_rfl))
  f165 := Tryd.func87.trans (congrArg some (by kernel_rfl))
  f166 := Tryd.func88.trans (congrArg some (by kernel_rfl))
  f169 := Tryd.func89.trans (congrArg some (by kernel_rfl))
  f240 := Tryd.func93.trans (congrArg some (by kernel_rfl))
  f241 := Tryd.func94.trans (congrArg some (by kernel_rfl))
  f276 := Tryd.func99.trans (congrArg some (by kernel_rfl))
  f277 := Tryd.func100.trans (congrArg some (by kernel_rfl))
  t0 := Tryd.underlying0
  a0 := Tryd.isAgg0
  z0 := Tryd.sizeOf0
  v0 := Tryd.zeroValue0
  t3 := Tryd.underlying3
  a3 := Tryd.isAgg3
  z3 := Tryd.sizeOf3
  v3 := Tryd.zeroValue3
  t4 := Tryd.underlying4
  a4 := Tryd.isAgg4
  z4 := Tryd.sizeOf4
  v4 := Tryd.zeroValue4
  t9 := Tryd.underlying9
  a9 := Tryd.isAgg9
  z9 := Tryd.sizeOf9
  v9 := Tryd.zeroValue9
  t20 := Tryd.underlying20
  a20 := Tryd.isAgg20
  z20 := Tryd.sizeOf20
  v20 := Tryd.zeroValue20
  t31 := Tryd.underlying51
  a31 := Tryd.isAgg51
  z31 := Tryd.sizeOf51
  v31 := Tryd.zeroValue51
  t37 := Tryd.underlying162
  a37 := Tryd.isAgg162
  z37 := Tryd.sizeOf162
  v37 := Tryd.zeroValue162
  t70 := Tryd.underlying161
  a70 := Tryd.isAgg161
  z70 := Tryd.sizeOf161
  v70 := Tryd.zeroValue161
  t72 := Tryd.underlying164
  a72 := Tryd.isAgg164
  z72 := Tryd.sizeOf164
  v72 := Tryd.zeroValue164
  t75 := Tryd.underlying167
  a75 := Tryd.isAgg167
  z75 := Tryd.sizeOf167
  v75 := Tryd.zeroValue167
  t76 := Tryd.underlying168
  a76 := Tryd.isAgg168
  z76 := Tryd.sizeOf168
  v76 := Tryd.zeroValue168
  t127 := Tryd.underlying173
  a127 := Tryd.isAgg173
  z127 := Tryd.sizeOf173
  v127 := Tryd.zeroValue173
  t164 := Tryd.underlying180
  a164 := Tryd.isAgg180
  z164 := Tryd.sizeOf180
  v164 := Tryd.zeroValue180 }
theorem Tryd.extra : Builder.Extra Tryd.prog Tryd.laysJoin_ren where
  sizeBuilder := by kernel_rfl
  liesBuilder := by kernel_rfl
  t5 := Tryd.underlying5
  a5 := Tryd.isAgg5
  z5 := Tryd.sizeOf5
  v5 := Tryd.zeroValue5
  infoByte := by kernel_rfl
  cellsByte := by kernel_rfl
  sizeByte := by kernel_rfl
  neB5 := by decide
theorem join_none (a : Option Addr) (c : Nat) (sep : ByteArray) (w : World) :
    Calls Tryd.prog 71 #[.slice a 0 c, .string sep] w fun e w' => e = .returned (.string ⟨#[]⟩) ∧ w' = w := Any.strings_Join_none Tryd.laysJoin Tryd.extra a c sep w
theorem join_calls (bk o c : Nat) (xs : List ByteArray) (sep : ByteArray) (w : World) (hcells : ∀ (j : Nat) x, xs[j]? = some x → w.cell? ⟨bk, o + j, none⟩ = some (.string x)) (hbk : bk < w.heap.size) (hN : xs.length ≤ 140737488355328) (hcap : xs.length ≤ c) (hlen : (Lib.join (xs.map (·.data.toList)) sep.data.toList).length ≤ 140737488355328) :
    Calls Tryd.prog 71 #[.slice (some ⟨bk, o, none⟩) xs.length c, .string sep] w fun e w' => e = .returned (.string ⟨(Lib.join (xs.map (·.data.toList)) sep.data.toList).toArray⟩) ∧ Below w.heap.size w w' := Any.strings_Join Tryd.laysJoin Tryd.extra bk o c xs sep w hcells hbk hN hcap hlen
end Go.Proofs.YtkhnjmbgkakngaaDoor
