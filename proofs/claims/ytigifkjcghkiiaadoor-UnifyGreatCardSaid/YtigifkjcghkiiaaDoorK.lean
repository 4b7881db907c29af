/- The keys of a map of integers, sorted: the library's contracts at this program's numbers. -/
import Derived.Test.YtigifkjcghkiiaaDoorS1
import Derived.Shelf.SlIterI.Nil
import Derived.Shelf.SortM.Plain
import Derived.Shelf.SortM.SortNone
import Derived.Ground.GgzProg
import Derived.Ground.SlgmProg
set_option linter.unusedSimpArgs false
set_option linter.unusedVariables false
namespace Go.Proofs.YtigifkjcghkiiaaDoor
open Go Go.RowKit Go.Maps Go.Sort Go.Shelf Go.Proofs

def Tryd.keysA_ren : Go.Shelf.Ren := ⟨fun | 7 => 62 | 10 => 78 | n => n, fun | 23 => 66 | 26 => 3 | 3 => 27 | 28 => 87 | 0 => 0 | 27 => 86 | 33 => 99 | 4 => 4 | n => n, fun | n => n⟩
theorem Tryd.keysA : Go.Proofs.SlLaysZI.n7 Tryd.prog Tryd.keysA_ren := {
  mixed := by kernel_rfl
  f7 := ⟨Tryd.f62.name, by decide, Tryd.func62.trans (congrArg some (by kernel_rfl))⟩
  f10 := ⟨Tryd.f78.name, by decide, Tryd.func78.trans (congrArg some (by kernel_rfl))⟩
  t0 := Tryd.underlying0
  a0 := Tryd.isAgg0
  z0 := Tryd.sizeOf0
  v0 := Tryd.zeroValue0
  t4 := Tryd.underlying4
  a4 := Tryd.isAgg4
  z4 := Tryd.sizeOf4
  v4 := Tryd.zeroValue4
  t23 := Tryd.underlying66
  a23 := Tryd.isAgg66
  z23 := Tryd.sizeOf66
  v23 := Tryd.zeroValue66
  t26 := Tryd.underlying3
  a26 := Tryd.isAgg3
  z26 := Tryd.sizeOf3
  v26 := Tryd.zeroValue3
  t27 := Tryd.underlying86
  a27 := Tryd.isAgg86
  z27 := Tryd.sizeOf86
  v27 := Tryd.zeroValue86
  t28 := Tryd.underlying87
  a28 := Tryd.isAgg87
  z28 := Tryd.sizeOf87
  v28 := Tryd.zeroValue87
  t33 := Tryd.underlying99
  a33 := Tryd.isAgg99
  z33 := Tryd.sizeOf99
  v33 := Tryd.zeroValue99 }
def Tryd.sortedA_ren : Go.Shelf.Ren := ⟨fun | 6 => 61 | 8 => 76 | 9 => 77 | 11 => 87 | 13 => 89 | 12 => 88 | 23 => 105 | 24 => 106 | 14 => 96 | 15 => 97 | 16 => 98 | 17 => 99 | 18 => 100 | 19 => 101 | 20 => 102 | 21 => 103 | 22 => 104 | 25 => 109 | 26 => 110 | 27 => 111 | 28 => 112 | 29 => 113 | 30 => 114 | 31 => 119 | n => n, fun | 26 => 3 | 28 => 87 | 24 => 22 | 0 => 0 | 3 => 3 | 37 => 108 | 48 => 124 | 50 => 126 | 4 => 4 | 40 => 116 | 39 => 115 | 45 => 121 | 5 => 5 | 9 => 9 | 51 => 129 | 55 => 133 | 57 => 139 | 58 => 140 | 33 => 99 | n => n, fun | n => n⟩
theorem Tryd.sortedA : Go.Proofs.SlLaysZI.n6 Tryd.prog Tryd.sortedA_ren := {
  mixed := by kernel_rfl
  f6 := ⟨Tryd.f61.name, by decide, Tryd.func61.trans (congrArg some (by kernel_rfl))⟩
  f8 := ⟨Tryd.f76.name, by decide, Tryd.func76.trans (congrArg some (by kernel_rfl))⟩
  f11 := ⟨Tryd.f87.name, by decide, Tryd.func87.trans (congrArg some (by kernel_rfl))⟩
  t0 := Tryd.underlying0
  a0 := Tryd.isAgg0
  z0 := Tryd.sizeOf0
  v0 := Tryd.zeroValue0
  t24 := Tryd.underlying22
  a24 := Tryd.isAgg22
  z24 := Tryd.sizeOf22
  v24 := Tryd.zeroValue22
  t26 := Tryd.underlying3
  a26 := Tryd.isAgg3
  z26 := Tryd.sizeOf3
  v26 := Tryd.zeroValue3
  t28 := Tryd.underlying87
  a28 := Tryd.isAgg87
  z28 := Tryd.sizeOf87
  v28 := Tryd.zeroValue87
  i26 := by kernel_rfl }
def Tryd.sortA_ren : Go.Shelf.Ren := ⟨fun | 5 => 77 | 8 => 89 | 7 => 88 | 19 => 105 | 20 => 106 | 10 => 96 | 11 => 97 | 12 => 98 | 13 => 99 | 14 => 100 | 15 => 101 | 16 => 102 | 17 => 103 | 18 => 104 | 30 => 109 | 31 => 110 | 32 => 111 | 33 => 112 | 34 => 113 | 35 => 114 | 40 => 119 | n => n, fun | 23 => 22 | 25 => 3 | 3 => 3 | 32 => 108 | 22 => 22 | 0 => 0 | 44 => 124 | 46 => 126 | 4 => 4 | 36 => 116 | 35 => 115 | 41 => 121 | 5 => 5 | 9 => 9 | 53 => 129 | 57 => 133 | 63 => 139 | 64 => 140 | n => n, fun | n => n⟩
theorem Tryd.sortA : Go.Proofs.SlLaysM.n5 Tryd.prog Tryd.sortA_ren := {
  mixed := by kernel_rfl
  f5 := ⟨Tryd.f77.name, by decide, Tryd.func77.trans (congrArg some (by kernel_rfl))⟩
  f7 := ⟨Tryd.f88.name, by decide, Tryd.func88.trans (congrArg some (by kernel_rfl))⟩
  f8 := Tryd.func89.trans (congrArg some (by kernel_rfl))
  f10 := ⟨Tryd.f96.name, by decide, Tryd.func96.trans (congrArg some (by kernel_rfl))⟩
  f11 := ⟨Tryd.f97.name, by decide, Tryd.func97.trans (congrArg some (by kernel_rfl))⟩
  f12 := ⟨Tryd.f98.name, by decide, Tryd.func98.trans (congrArg some (by kernel_rfl))⟩
  f13 := ⟨Tryd.f99.name, by decide, Tryd.func99.trans (congrArg some (by kernel_rfl))⟩
  f14 := ⟨Tryd.f100.name, by decide, Tryd.func100.trans (congrArg some (by kernel_rfl))⟩
  f15 := ⟨Tryd.f101.name, by decide, Tryd.func101.trans (congrArg some (by kernel_rfl))⟩
  f16 := ⟨Tryd.f102.name, by decide, Tryd.func102.trans (congrArg some (by kernel_rfl))⟩
  f17 := ⟨Tryd.f103.name, by decide, Tryd.func103.trans (congrArg some (by kernel_rfl))⟩
  f18 := ⟨Tryd.f104.name, by decide, Tryd.func104.trans (congrArg some (by kernel_rfl))⟩
  f19 := Tryd.func105.trans (congrArg some (by kernel_rfl))
  f20 := Tryd.func106.trans (congrArg some (by kernel_rfl))
  f30 := ⟨Tryd.f109.name, by decide, Tryd.func109.trans (congrArg some (by kernel_rfl))⟩
  f31 := Tryd.func110.trans (congrArg some (by kernel_rfl))
  f32 := Tryd.func111.trans (congrArg some (by kernel_rfl))
  f33 := ⟨Tryd.f112.name, by decide, Tryd.func112.trans (congrArg some (by kernel_rfl))⟩
  f34 := ⟨Tryd.f113.name, by decide, Tryd.func113.trans (congrArg some (by kernel_rfl))⟩
  f35 := ⟨Tryd.f114.name, by decide, Tryd.func114.trans (congrArg some (by kernel_rfl))⟩
  f40 := ⟨Tryd.f119.name, by decide, Tryd.func119.trans (congrArg some (by kernel_rfl))⟩
  t0 := Tryd.underlying0
  a0 := Tryd.isAgg0
  z0 := Tryd.sizeOf0
  v0 := Tryd.zeroValue0
  t3 := Tryd.underlying3
  a3 := Tryd.isAgg3
  z3 := Tryd.sizeOf3
  v3 := Tryd.zeroValue3
  t4 := Tryd.underlying4
  a4 := Tryd.isAgg4
  z4 := Tryd.sizeOf4
  v4 := Tryd.zeroValue4
  t5 := Tryd.underlying5
  a5 := Tryd.isAgg5
  z5 := Tryd.sizeOf5
  v5 := Tryd.zeroValue5
  t9 := Tryd.underlying9
  a9 := Tryd.isAgg9
  z9 := Tryd.sizeOf9
  v9 := Tryd.zeroValue9
  t22 := Tryd.underlying22
  a22 := Tryd.isAgg22
  z22 := Tryd.sizeOf22
  v22 := Tryd.zeroValue22
  t23 := Tryd.underlying22
  a23 := Tryd.isAgg22
  z23 := Tryd.sizeOf22
  v23 := Tryd.zeroValue22
  t25 := Tryd.underlying3
  a25 := Tryd.isAgg3
  z25 := Tryd.sizeOf3
  v25 := Tryd.zeroValue3
  t32 := Tryd.underlying108
  a32 := Tryd.isAgg108
  z32 := Tryd.sizeOf108
  v32 := Tryd.zeroValue108
  t35 := Tryd.underlying115
  a35 := Tryd.isAgg115
  z35 := Tryd.sizeOf115
  v35 := Tryd.zeroValue115
  t36 := Tryd.underlying116
  a36 := Tryd.isAgg116
  z36 := Tryd.sizeOf116
  v36 := Tryd.zeroValue116
  t41 := Tryd.underlying121
  a41 := Tryd.isAgg121
  z41 := Tryd.sizeOf121
  v41 := Tryd.zeroValue121
  t44 := Tryd.underlying124
  a44 := Tryd.isAgg124
  z44 := Tryd.sizeOf124
  v44 := Tryd.zeroValue124
  t46 := Tryd.underlying126
  a46 := Tryd.isAgg126
  z46 := Tryd.sizeOf126
  v46 := Tryd.zeroValue126
  t53 := Tryd.underlying129
  a53 := Tryd.isAgg129
  z53 := Tryd.sizeOf129
  v53 := Tryd.zeroValue129
  t57 := Tryd.underlying133
  a57 := Tryd.isAgg133
  z57 := Tryd.sizeOf133
  v57 := Tryd.zeroValue133
  t63 := Tryd.underlying139
  a63 := Tryd.isAgg139
  z63 := Tryd.sizeOf139
  v63 := Tryd.zeroValue139
  t64 := Tryd.underlying140
  a64 := Tryd.isAgg140
  z64 := Tryd.sizeOf140
  v64 := Tryd.zeroValue140 }
theorem keys_calls (mb : Option Nat) (W : World) : Calls Tryd.prog 62 #[.map mb] W fun e w' => e = .returned (.func (.func 78) #[] #[.pointer (some ⟨W.heap.size, 0, none⟩)]) ∧ w' = W.alloc (.cells #[.map mb] 66) :=
  callsIn_wide.1 (AnyZI.keys_in Tryd.keysA Fence.wide 5 trivial rfl mb W)
/-- The sort's two contracts, as 'sorted_in' asks for them. -/
abbrev SortsHere : Prop := ∀ m, AnyZI.SortsIn Tryd.prog Tryd.sortedA_ren Fence.wide m
theorem sortsHere : SortsHere := fun m =>
  ⟨fun blk off cap ss W hH hblk hsz => callsIn_wide.2 (AnyM.slices_Sort_int Tryd.sortA blk off cap ss W hH hblk hsz),
   fun p cap W => callsIn_wide.2 (AnyM.slices_Sort_int_none Tryd.sortA p cap W)⟩
theorem sorted_calls (Bm b nn : Nat) (D0 : DataW Unit) (R : Value → Option (DataW Unit × List MemPlace)) (w : World) (hBm : Bm < w.heap.size) (hm : w.cell? ⟨Bm, 0, none⟩ = some (.map (some b))) (hown : w.ownsMap Tryd.prog 3 R b nn D0)
    (hmax : Maps.size D0 ≤ maxLen) (hbytes : Maps.size D0 * 8 ≤ 140737488355328) :
    Calls Tryd.prog 61 #[.func (.func 78) #[] #[.pointer (some ⟨Bm, 0, none⟩)]] w fun e w' => ∃ (v : Value) (ss : List Int), e = .returned v ∧ ss.Perm (intKeys D0) ∧
      w'.ownsRow w.heap.size 3 1 v ss.length ((ss.mergeSort (fun x y => decide (x ≤ y))).map encZ) ∧ (v = .slice none 0 0 ↔ ss = []) ∧ Below w.heap.size w w' := by
  have hseq : SeqGives Fence.wide 2 Tryd.prog 78 #[.pointer (some ⟨Bm, 0, none⟩)] encZ (fun ss => ss.Perm (intKeys D0)) (Maps.size D0) w :=
    AnyZI.keys_gives (ρ := Tryd.keysA_ren) { Tryd.keysA with } Fence.wide _ trivial rfl (by omega) Bm b nn D0 w hBm hm hown
  have cS := AnyZI.sorted_in Tryd.sortedA Fence.wide 5 trivial trivial trivial trivial rfl (by omega) (sortsHere _) (enters_of Tryd.func77 (by kernel_rfl) rfl) 78 #[.pointer (some ⟨Bm, 0, none⟩)] trivial (enters_of Tryd.func78 (by kernel_rfl) rfl) _ _ hmax hbytes _ hseq
  exact callsIn_wide.1 cS
end Go.Proofs.YtigifkjcghkiiaaDoor
