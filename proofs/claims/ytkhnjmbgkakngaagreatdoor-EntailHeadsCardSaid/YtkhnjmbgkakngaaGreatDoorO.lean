/- slices.Clone and slices.Delete of predicates, walked by the kit. -/
import Derived.Test.YtkhnjmbgkakngaaGreatDoorS1
import Derived.WalkKit
import Derived.Deep.LoopGhost
import Derived.Deep.RegionLaw
import Derived.Deep.AppendSrc
import Derived.Room.AppendOwn
import Derived.Lib.Walk
import Derived.Lib.SliceRun
import Derived.Lib.ReflectliteSwap
set_option linter.unusedSimpArgs false
set_option linter.unusedVariables false
namespace Go.Proofs.YtkhnjmbgkakngaaGreatDoor
open Go Go.RowKit Go.Lib
abbrev zPrV : Value := .agg #[.string .empty, .int .i64 0, .int .i64 0, .string .empty, .slice none 0 0]
theorem info48 : (Tryz.prog.info? 48).map (fun i => (i.zero, i.size, i.bytes)) = some (some zPrV, 5, 72) := by kernel_rfl

set_option maxHeartbeats 2000000 in
set_option maxRecDepth 100000 in
theorem clone_calls (b off n c : Nat) (news : List Value) (w : World) (hl : news.length = n * 5) (hn : n ≤ maxLen) (hbig : n * 72 ≤ 140737488355328)
    (hc : ∀ j u, news[j]? = some u → w.cell? ⟨b, off + j, none⟩ = some u) (h1 : ∀ u ∈ news, u.oneCell' = true) :
    Calls Tryz.prog 52 #[.slice (some ⟨b, off, none⟩) n c] w fun e w' => ∃ v', e = .returned v' ∧ w'.ownsRow w.heap.size 48 5 v' n news ∧ v' ≠ .slice none 0 0 ∧ Below w.heap.size w w' := by
  obtain ⟨i0, hi0, hz0, hz1, hz2⟩ := info_parts info48
  have q22 : ∀ (w : World) (a : Option Addr) (n c n' c' : Nat), (binOp .eql 37 (.slice a n c) (.slice none n' c')).run Tryz.prog w = .ok (.bool a.isNone) w := fun w a n c n' c' => Lib.run_eql_slice_nil w _ _ a n c n' c' Tryz.underlying37
  have A : Aside (∀ j u, news[j]? = some u → w.cell? ⟨b, off + j, none⟩ = some u) := hc
  clear hc
  go_enter Tryz.func52, Tryz.ntmps52
  go_wp2_with (at_builtin; refine wpList_append_own _ rfl _ _ 37 rfl w.heap.size 48 i0 zPrV 5 72 Tryz.underlying37 hi0 hz0 hz1 hz2 rfl (by decide) _ _ _ rfl (World.ownsRow_made w #[] 0 (Nat.le_refl _) (Nat.zero_le _) (by simp)) ⟨b, off, none⟩ n c news rfl ?qc1 ?qc2 ?qc3 ?qc4 ?qc5 ?qc6 ?_)
  case qc1 => exact hl
  case qc2 =>
    intro j u hj
    rw [Addr.add_lit]
    exact Lib.cell?_alloc_some _ (A.out j u hj)
  case qc3 => exact h1
  case qc4 => rw [Nat.zero_add]; exact hn
  case qc5 => rw [Nat.zero_add]; exact hbig
  case qc6 => simp
  intro v' w1 hown hgrow hnil
  go_wp2
  go_ret
  refine ⟨v', rfl, by simpa using hown, ?_, ?_⟩
  · exact hnil
  · exact ((Below.refl _ w).alloc (Nat.le_refl _) _).grown hgrow (by simp) (by intro k hk; simp [Value.ownBlock] at hk; omega)
end Go.Proofs.YtkhnjmbgkakngaaGreatDoor

namespace Go.Proofs.YtkhnjmbgkakngaaGreatDoor
open Go Go.RowKit Go.Lib
theorem Tryz.zeroValue48 (w : World) : (zeroValue 48).run Tryz.prog w = .ok zPrV w := by kernel_rfl
abbrev zPrL : List Value := [.string .empty, .int .i64 0, .int .i64 0, .string .empty, .slice none 0 0]

set_option maxHeartbeats 4000000 in
set_option maxRecDepth 1000000 in
theorem delete_calls (blk n cap i : Nat) (cells : List Value) (w : World) (hi : i < n) (hcap : n ≤ cap) (hm : cap ≤ 9223372036854775807) (hl : cells.length = n * 5)
    (hc : ∀ j u, cells[j]? = some u → w.cell? ⟨blk, j, none⟩ = some u) (hf : ∀ j, w.frozen? ⟨blk, j, none⟩ = false) (h1 : ∀ u ∈ cells, u.oneCell' = true) :
    Calls Tryz.prog 51 #[.slice (some ⟨blk, 0, none⟩) n cap, .int .i64 i, .int .i64 ((i + 1 : Nat) : Int)] w fun e w' => e = .returned (.slice (some ⟨blk, 0, none⟩) (n - 1) cap) ∧
      w' = (w.drew.setCells blk (i * 5) (cells.drop ((i + 1) * 5))).setCells blk ((n - 1) * 5) zPrL := by
  obtain ⟨i0, hi0, hz0, hz1, hz2⟩ := info_parts info48
  obtain ⟨news, hnews⟩ : ∃ news, news = cells.drop ((i + 1) * 5) := ⟨_, rfl⟩
  have hlen : news.length = (n - (i + 1)) * 5 := by rw [hnews, List.length_drop, hl, Nat.sub_mul]
  have hget : ∀ t, news[t]? = cells[(i + 1) * 5 + t]? := fun t => by rw [hnews, List.getElem?_drop]
  have hsome : ∀ j, j < n * 5 → (w.cell? ⟨blk, j, none⟩).isSome = true := fun j hj => by
    rw [hc j cells[j] (List.getElem?_eq_getElem (by omega))]; rfl
  obtain ⟨A, hA, hsrc⟩ : ∃ A : Addr, (if cap = i + 1 then some (⟨blk, 0, none⟩ : Addr) else some ⟨blk, (i + 1) * 5, none⟩) = some A ∧ Hid (∀ t u, news[t]? = some u → w.drew.cell? (A.add t) = some u) := by
    by_cases h : cap = i + 1
    · refine ⟨⟨blk, 0, none⟩, by simp [h], fun t u hu => ?_⟩
      have h0 : news.length = 0 := by rw [hlen]; omega
      rw [List.length_eq_zero_iff.1 h0] at hu
      simp at hu
    · refine ⟨⟨blk, (i + 1) * 5, none⟩, by simp [h], fun t u hu => ?_⟩
      rw [hget t] at hu
      rw [Addr.add_lit]
      exact hc _ u hu
  have s1 : Hid (news.length = (n - (i + 1)) * 5) := hlen
  have s2 : Hid (∀ u ∈ news, u.oneCell' = true) := by
    intro u hu
    rw [hnews] at hu
    exact h1 u (List.mem_of_mem_drop hu)
  have s3 : Hid (∀ t, t < news.length → (w.drew.cell? ⟨blk, 0 + i * 5 + t, none⟩).isSome = true ∧ w.drew.frozen? ⟨blk, 0 + i * 5 + t, none⟩ = false) := by
    intro t ht
    rw [hlen] at ht
    rw [Nat.zero_add]
    refine ⟨hsome _ ?_, hf _⟩
    have : (n - (i + 1)) * 5 + (i + 1) * 5 = n * 5 := by rw [← Nat.add_mul]; congr 1; omega
    omega
  obtain ⟨W1, hW1⟩ : ∃ W1, W1 = w.drew.setCells blk (0 + i * 5) news := ⟨_, rfl⟩
  have hcl : ∀ ty, (Builtin.clear_ #[37] ty #[.slice (some ⟨blk, (i + (n - (i + 1))) * 5, none⟩) (n - (i + (n - (i + 1)))) (cap - (i + (n - (i + 1))))]).run Tryz.prog W1 = .ok (.tuple #[]) (W1.setCells blk ((n - 1) * 5) zPrL) := fun ty => by
    have e1 : i + (n - (i + 1)) = n - 1 := by omega
    rw [e1, show n - (n - 1) = 1 by omega]
    have hz : (Builtin.zeroCells (Value.agg #[.string { data := #[] }, .int .i64 0, .int .i64 0, .string { data := #[] }, .slice none 0 0]).cells 1).toList = zPrL := by kernel_rfl
    have hst := run_storeCells_cells (P := Tryz.prog) blk ((n - 1) * 5) zPrL 0 W1 (fun j hj => by
        rw [Nat.add_zero, hW1]
        refine isSome_setCells _ _ _ _ _ ?_
        have hj : j < 5 := hj
        exact hsome _ (by omega))
      (fun j hj => by
        rw [hW1, World.frozen?_setCells]
        exact hf _) (by decide)
    simp only [Nat.add_zero] at hst
    simp [Builtin.clear_, run_underlying Tryz.underlying37, Tryz.zeroValue48]
    rw [hz, hst]
    rfl
  have hW : Hid (W1 = w.drew.setCells blk (0 + i * 5) news) := hW1
  have hic : i ≤ cap := by omega
  have hjc : i + 1 ≤ cap := by omega
  have hp0 : (0 : Int) ≤ (i : Int) + 1 := by omega
  have hp1 : (i : Int) + 1 ≤ (n : Int) := by omega
  have hp2 : ((i : Int) + 1).toNat = i + 1 := by omega
  have hne : ¬ (i : Int) = ((i + 1 : Nat) : Int) := by omega
  clear hW1 hc hget hsome hf
  go_enter Tryz.func51, Tryz.ntmps51
  go_wp2_with fail
  go_region_law (refine step_append_room rfl (.tmp 22) (.tmp 25) 37 rfl 48 i0 5 Tryz.underlying37 hi0 hz1 blk 0 i cap (by simp [Act.eval, Act.put]) A (n - (i + 1)) (cap - (i + 1)) news (by simp [Act.eval, Act.put]) s1.out hsrc.out s2.out (by omega) s3.out ?_; rw [← hW.out])
  go_wp2
  go_ret
  refine ⟨by rw [show n - 1 = i + (n - (i + 1)) by omega]; rfl, ?_⟩
  rw [hW.out, hnews, Nat.zero_add]
end Go.Proofs.YtkhnjmbgkakngaaGreatDoor
