/- The keys of a map of integers, sorted: the library's contracts at this program's numbers. -/
import Derived.Test.YtigifkjcghkiiaaDoorS1
import Derived.Shelf.SlIterI.Nil
import Derived.Shelf.SortM.Plain
import Derived.Shelf.SortM.SortNone
import Derived.Ground.GgzProg
import Derived.Ground.SlgmProg
set_option linter.unusedSimpArgs false
set_option linter.unusedVariables false
namespace Go.Proofs.YtigifkjcghkiiaaDoor
open Go Go.RowKit Go.Maps Go.Sort Go.Shelf Go.Proofs

shelf_lay_g SlLaysZI.n7 Ggz 7 at Tryd 62 as Tryd.keysA
shelf_lay_g SlLaysZI.n6 Ggz 6 at Tryd 61 as Tryd.sortedA
shelf_lay_g SlLaysM.n5 Slgm 5 at Tryd 77 as Tryd.sortA
theorem keys_calls (mb : Option Nat) (W : World) : Calls Tryd.prog 62 #[.map mb] W fun e w' => e = .returned (.func (.func 78) #[] #[.pointer (some ⟨W.heap.size, 0, none⟩)]) ∧ w' = W.alloc (.cells #[.map mb] 66) :=
  callsIn_wide.1 (AnyZI.keys_in Tryd.keysA Fence.wide 5 trivial rfl mb W)
/-- The sort's two contracts, as 'sorted_in' asks for them. -/
abbrev SortsHere : Prop := ∀ m, AnyZI.SortsIn Tryd.prog Tryd.sortedA_ren Fence.wide m
theorem sortsHere : SortsHere := fun m =>
  ⟨fun blk off cap ss W hH hblk hsz => callsIn_wide.2 (AnyM.slices_Sort_int Tryd.sortA blk off cap ss W hH hblk hsz),
   fun p cap W => callsIn_wide.2 (AnyM.slices_Sort_int_none Tryd.sortA p cap W)⟩
theorem sorted_calls (Bm b nn : Nat) (D0 : DataW Unit) (R : Value → Option (DataW Unit × List MemPlace)) (w : World) (hBm : Bm < w.heap.size) (hm : w.cell? ⟨Bm, 0, none⟩ = some (.map (some b))) (hown : w.ownsMap Tryd.prog 3 R b nn D0)
    (hmax : Maps.size D0 ≤ maxLen) (hbytes : Maps.size D0 * 8 ≤ 140737488355328) :
    Calls Tryd.prog 61 #[.func (.func 78) #[] #[.pointer (some ⟨Bm, 0, none⟩)]] w fun e w' => ∃ (v : Value) (ss : List Int), e = .returned v ∧ ss.Perm (intKeys D0) ∧
      w'.ownsRow w.heap.size 3 1 v ss.length ((ss.mergeSort (fun x y => decide (x ≤ y))).map encZ) ∧ (v = .slice none 0 0 ↔ ss = []) ∧ Below w.heap.size w w' := by
  have hseq : SeqGives Fence.wide 2 Tryd.prog 78 #[.pointer (some ⟨Bm, 0, none⟩)] encZ (fun ss => ss.Perm (intKeys D0)) (Maps.size D0) w :=
    AnyZI.keys_gives (ρ := Tryd.keysA_ren) { Tryd.keysA with } Fence.wide _ trivial rfl (by omega) Bm b nn D0 w hBm hm hown
  have cS := AnyZI.sorted_in Tryd.sortedA Fence.wide 5 trivial trivial trivial trivial rfl (by omega) (sortsHere _) (enters_of Tryd.func77 (by kernel_rfl) rfl) 78 #[.pointer (some ⟨Bm, 0, none⟩)] trivial (enters_of Tryd.func78 (by kernel_rfl) rfl) _ _ hmax hbytes _ hseq
  exact callsIn_wide.1 cS
end Go.Proofs.YtigifkjcghkiiaaDoor
