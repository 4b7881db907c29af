/- All predicates but the one at a place, in memory of their own: Simple's function literal. -/
import Derived.Test.YtkhnjmbgkakngaaGreatDoorO
import Derived.Test.YtkhnjmbgkakngaaGreatDoorM
set_option linter.unusedSimpArgs false
set_option linter.unusedVariables false
namespace Go.Proofs.YtkhnjmbgkakngaaGreatDoor
open Go Fp Go.RowKit Go.Lib
set_option linter.unusedVariables false

theorem setCells_stored {w : World} {b off : Nat} {cs : Array Value} {E : TypeId} (h : w.heap[b]? = some (.cells cs E (0, 0))) (vs : List Value) (hf : off + vs.length ≤ cs.size) (h1 : ∀ v ∈ vs, v.oneCell' = true) :
    ∃ cs', Stored w (w.setCells b off vs) b cs cs' E ∧ cellsAt cs off vs cs' := by
  obtain ⟨w', cs', r1, st, hat⟩ := run_storeCells (P := Tryz.prog) vs w b off 0 cs E h (by omega) h1
  have hst := run_storeCells_cells (P := Tryz.prog) b off vs 0 w (fun j hj => by
      rw [World.cell_of_cells h, Array.getElem?_eq_getElem (by omega)]; rfl) (fun j hj => by unfold World.frozen?; simp [h]) h1
  rw [r1] at hst
  injection hst with _ hst
  subst hst
  exact ⟨cs', st, by simpa using hat⟩
/-- What is left of cells, but for five of them. -/
def lessC (news : List Value) (i : Nat) : List Value := news.take (i * 5) ++ news.drop ((i + 1) * 5)

set_option maxHeartbeats 4000000 in
set_option maxRecDepth 1000000 in
theorem others_calls (b0 b off n c i : Nat) (news : List Value) (w : World) (hi : i < n) (hl : news.length = n * 5) (hn : n ≤ 1000000) (h0 : w.cell? ⟨b0, 0, none⟩ = some (.slice (some ⟨b, off, none⟩) n c))
    (hc : ∀ j u, news[j]? = some u → w.cell? ⟨b, off + j, none⟩ = some u) (h1 : ∀ u ∈ news, u.oneCell' = true) :
    Calls Tryz.prog 50 #[.int .i64 i, .pointer (some ⟨b0, 0, none⟩)] w fun e w' => ∃ g cap, e = .returned (.slice (some ⟨g, 0, none⟩) (n - 1) cap) ∧ n - 1 ≤ cap ∧ w.heap.size ≤ g ∧ Below w.heap.size w w' ∧ ∀ j u, (lessC news i)[j]? = some u → w'.cell? ⟨g, j, none⟩ = some u := by
  have hC := clone_calls b off n c news w hl (by unfold maxLen; omega) (by omega) hc h1
  have hwr : IntKind.i64.wrap ((i : Int) + 1) = ((i + 1 : Nat) : Int) := by rw [IntKind.wrap_i64]; omega
  have A : Aside (Calls Tryz.prog 52 #[.slice (some ⟨b, off, none⟩) n c] w fun e w' => ∃ v', e = .returned v' ∧ w'.ownsRow w.heap.size 48 5 v' n news ∧ v' ≠ .slice none 0 0 ∧ Below w.heap.size w w') := hC
  clear hC hc
  go_enter Tryz.func50, Tryz.ntmps50
  go_wp2_with (go_at_call 52; refine A.out.mono ?_; rintro e w1 ⟨v', rfl, hown, hnil, hbel⟩)
  obtain ⟨_, ⟨h, _⟩ | ⟨g, cap, cur, rfl, hg, hcur, hncap, hcap, hsz, htk⟩⟩ := hown
  · exact absurd h hnil
  have hcellg : ∀ j u, news[j]? = some u → w1.cell? ⟨g, j, none⟩ = some u := fun j u hu => by
    rw [World.cell_of_cells hcur, ← Array.getElem?_toList]
    rw [← htk, List.getElem?_take] at hu
    split at hu
    · exact hu
    · cases hu
  have hfrz : ∀ j, w1.frozen? ⟨g, j, none⟩ = false := fun j => by unfold World.frozen?; simp [hcur]
  have hD := delete_calls g n cap i news w1 hi hncap (by unfold maxLen at hcap; omega) hl hcellg hfrz h1
  have B : Aside (Calls Tryz.prog 51 #[.slice (some ⟨g, 0, none⟩) n cap, .int .i64 i, .int .i64 ((i + 1 : Nat) : Int)] w1 fun e w' => e = .returned (.slice (some ⟨g, 0, none⟩) (n - 1) cap) ∧ w' = (w1.drew.setCells g (i * 5) (news.drop ((i + 1) * 5))).setCells g ((n - 1) * 5) zPrL) := hD
  clear hD
  have hsum : (n - (i + 1)) * 5 + (i + 1) * 5 = n * 5 := by rw [← Nat.add_mul]; congr 1; omega
  have hle : n * 5 ≤ cap * 5 := Nat.mul_le_mul_right 5 hncap
  obtain ⟨cs1, st1, at1⟩ := setCells_stored (w := w1.drew) (b := g) (off := i * 5) (cs := cur) (E := 48) hcur (news.drop ((i + 1) * 5)) (by rw [List.length_drop, hl, hsz]; omega) (fun v hv => h1 v (List.mem_of_mem_drop hv))
  obtain ⟨cs2, st2, at2⟩ := setCells_stored (b := g) (off := (n - 1) * 5) st1.now zPrL (by rw [st1.len, hsz]; show (n - 1) * 5 + 5 ≤ _; omega) (by decide)
  have R : Aside (Below w.heap.size w ((w1.drew.setCells g (i * 5) (news.drop ((i + 1) * 5))).setCells g ((n - 1) * 5) zPrL) ∧ ∀ j u, (lessC news i)[j]? = some u → ((w1.drew.setCells g (i * 5) (news.drop ((i + 1) * 5))).setCells g ((n - 1) * 5) zPrL).cell? ⟨g, j, none⟩ = some u) := by
    refine ⟨⟨st2.os.trans (st1.os.trans hbel.os), st2.tape.trans (st1.tape.trans hbel.tape), st2.output.trans (st1.output.trans hbel.output), by rw [st2.size, st1.size]; exact hbel.size, fun k hk => ?_⟩, fun j u hu => ?_⟩
    · rw [st2.block k (by omega), st1.block k (by omega)]
      exact hbel.block k hk
    · have hjl : j < (n - 1) * 5 := by
        have := (List.getElem?_eq_some_iff.1 hu).1
        unfold lessC at this
        rw [List.length_append, List.length_take, List.length_drop, hl] at this
        omega
      rw [World.cell_of_cells st2.now, at2.2, if_neg (by omega), at1.2]
      unfold lessC at hu
      rw [List.length_drop, hl]
      by_cases hj : j < i * 5
      · rw [if_neg (by omega)]
        rw [List.getElem?_append_left (by rw [List.length_take, hl]; omega), List.getElem?_take, if_pos hj] at hu
        have := hcellg j u hu
        rw [World.cell_of_cells hcur] at this
        exact this
      · rw [if_pos ⟨by omega, by omega⟩]
        rw [List.getElem?_append_right (by rw [List.length_take, hl]; omega), List.length_take, hl, Nat.min_eq_left (by omega)] at hu
        exact hu
  clear hcellg hfrz st1 st2 at1 at2 hcur htk hbel
  go_wp2_with (go_at_call 51; refine B.out.mono ?_; rintro e w2 ⟨rfl, rfl⟩)
  go_ret
  exact ⟨g, cap, rfl, by omega, hg, R.out.1, R.out.2⟩
end Go.Proofs.YtkhnjmbgkakngaaGreatDoor

namespace Go.Proofs.YtkhnjmbgkakngaaGreatDoor
open Go Fp Go.RowKit Go.Lib
set_option maxRecDepth 10000
set_option maxHeartbeats 4000000
set_option linter.unusedVariables false

theorem ePr_cells (p : PR) : (ePr p).cells.length = 5 := rfl
abbrev fvO (b : Nat) : Value := .func (.func 50) #[] #[.pointer (some ⟨b, 0, none⟩)]
theorem others_ok (b0 : Nat) (l : List PR) (i : Nat) (hi : i < l.length) (hl : l.length ≤ 1000000) : CallsG Tryz.prog (fvO b0) [(b0, HO.cells [.sl (ePrs l)])] [.lit (.int .i64 (i : Nat))] [] fun r o h => r = .sl (ePrs (l.eraseIdx i)) ∧ o = 0 ∧ h = [(b0, HO.cells [.sl (ePrs l)])] := by
  refine ⟨50, #[], #[.pointer (some ⟨b0, 0, none⟩)], rfl, ⟨Tryz.f50, Tryz.func50, by kernel_rfl, by kernel_rfl⟩, fun F w vs hF hH hA hyk => ?_⟩
  -- the argument
  obtain ⟨v0, rfl⟩ : ∃ v0, vs = [v0] := by
    have := hA.len
    match vs, this with
    | [v], _ => exact ⟨v, rfl⟩
  have hv0 := (hA.rep 0 v0 _ rfl rfl).lit_eq.1
  subst hv0
  -- the block
  obtain ⟨cs, E, hb, hcs⟩ := hH.ok (b0, HO.cells [.sl (ePrs l)]) (by simp)
  have hF0 := hH.shut b0 (by simp [keys])
  have hc1 : cs.size = 1 := by rw [← Array.length_toList, hcs.1]; rfl
  obtain ⟨v, hv⟩ : ∃ v, cs[0]? = some v := ⟨cs[0], Array.getElem?_eq_getElem (by omega)⟩
  obtain ⟨hrep, _⟩ := hcs.2 0 v _ (by rw [Array.getElem?_toList]; exact hv) rfl
  have h0 : w.cell? ⟨b0, 0, none⟩ = some v := by rw [World.cell_of_cells hb]; exact hv
  have hlen : (ePrs l).length = l.length := by simp [ePrs]
  generalize hL : ePrs l = L at hrep hlen
  cases hrep with
  | slNil => simp at hlen; omega
  | slZ => simp at hlen; omega
  | sl b off n cap sz _ us hn hcap hsz hcl hcell hrp =>
    have hsz5 : sz = 5 := by
      have hm : ePr l[i] ∈ L := by rw [← hL]; exact List.mem_map.2 ⟨_, List.getElem_mem hi, rfl⟩
      rw [← hsz _ hm]; rfl
    subst hsz5
    have hnl : n = l.length := by omega
    subst hnl
    obtain ⟨news, hnews⟩ : ∃ news, news = (List.range (l.length * 5)).map us := ⟨_, rfl⟩
    have hget : ∀ j u, news[j]? = some u → j < l.length * 5 ∧ u = us j := fun j u hu => by
      rw [hnews, List.getElem?_map] at hu
      by_cases hj : j < l.length * 5
      · rw [List.getElem?_range hj] at hu
        simp at hu
        exact ⟨hj, hu.symm⟩
      · rw [List.getElem?_eq_none (by simp; omega)] at hu
        cases hu
    have hgeto : ∀ j, j < l.length * 5 → news[j]? = some (us j) := fun j hj => by
      rw [hnews, List.getElem?_map, List.getElem?_range hj]; rfl
    have hnl2 : news.length = l.length * 5 := by rw [hnews]; simp
    -- a cell, by element and place
    have hone : ∀ u ∈ news, u.oneCell' = true := fun u hu => by
      obtain ⟨j, hj⟩ := List.getElem?_of_mem hu
      obtain ⟨hj2, rfl⟩ := hget j u hj
      have hq : j / 5 < l.length := by omega
      have hx : L[j / 5]? = some (ePr l[j / 5]) := by rw [← hL, ePrs, List.getElem?_map, List.getElem?_eq_getElem hq]; rfl
      have hr : j % 5 < (ePr l[j / 5]).cells.length := by rw [ePr_cells]; omega
      have := hrp (j / 5) _ (j % 5) _ hx (List.getElem?_eq_getElem hr)
      rw [show j / 5 * 5 + j % 5 = j by omega] at this
      exact this.one (hcl _ (List.mem_of_getElem? hx) _ (List.getElem_mem hr))
    have hO := others_calls b0 b off l.length cap i news w hi hnl2 hl h0 (fun j u hu => by
      obtain ⟨hj, rfl⟩ := hget j u hu
      exact (hcell j hj).1) hone
    refine hO.mono ?_
    rintro e w' ⟨g, cap', rfl, hcap', hg, hbel, hcl2⟩
    have hKeeps : Keeps F w F w' := by
      refine ⟨fun k j u hu hc => ⟨?_, hc⟩, fun k es c hm hc => ⟨?_, hc⟩⟩
      · have hk : k < w.heap.size := by
          rcases Nat.lt_or_ge k w.heap.size with h | h
          · exact h
          · simp [World.cell?, Array.getElem?_eq_none h] at hu
        unfold World.cell? at hu ⊢
        rw [hbel.block k hk]; exact hu
      · have hk : k < w.heap.size := by
          rcases Nat.lt_or_ge k w.heap.size with h | h
          · exact h
          · simp [Array.getElem?_eq_none h] at hm
        rw [hbel.block k hk]; exact hm
    have hb0 : b0 < w.heap.size := by
      rcases Nat.lt_or_ge b0 w.heap.size with h | h
      · exact h
      · rw [Array.getElem?_eq_none h] at hb; cases hb
    refine ⟨_, .sl (ePrs (l.eraseIdx i)), 0, [(b0, HO.cells [.sl (ePrs l)])], F, rfl, ⟨rfl, rfl, by rw [hL]⟩, ?_, fun sz h => by omega, ⟨hbel.os, hbel.tape, hbel.output, hbel.size, fun k hk => .inr (.inr (hbel.block k hk))⟩, fun k _ => .inl rfl, fun k hk => hF k (Nat.le_trans hbel.size hk), ?_, fun k hk => .inl hk⟩
    · -- the result
      refine Rep.sl g 0 (l.length - 1) cap' 5 _ (fun j => ((lessC news i)[j]?).getD undef) (by simp [ePrs, List.length_eraseIdx, hi]) hcap' (fun x hx => ?_) (fun x hx c hc => ?_) (fun k hk => ?_) (fun k x j c hx hc => ?_)
      · obtain ⟨p, _, rfl⟩ := List.mem_map.1 hx; rfl
      · obtain ⟨p, hp, rfl⟩ := List.mem_map.1 hx
        have hp' := List.mem_of_mem_eraseIdx hp
        exact hcl (ePr p) (by rw [← hL]; exact List.mem_map.2 ⟨p, hp', rfl⟩) c hc
      · have hlk : k < (lessC news i).length := by
          unfold lessC
          rw [List.length_append, List.length_take, List.length_drop, hnl2]; omega
        rw [List.getElem?_eq_getElem hlk]
        refine ⟨by rw [Nat.zero_add]; exact hcl2 k _ (List.getElem?_eq_getElem hlk), fun m hm => ?_⟩
        rw [hF g hg] at hm; cases hm
      · have hj : j < 5 := by
          obtain ⟨p, _, rfl⟩ := List.mem_map.1 (List.mem_of_getElem? hx)
          have := (List.getElem?_eq_some_iff.1 hc).1
          rwa [ePr_cells] at this
        have hk : k < (l.eraseIdx i).length := by
          have := (List.getElem?_eq_some_iff.1 hx).1
          simpa [ePrs] using this
        rw [List.length_eraseIdx, if_pos hi] at hk
        -- where it lay before
        have hold : ∃ k', L[k']? = some x ∧ k' < l.length ∧ (lessC news i)[k * 5 + j]? = some (us (k' * 5 + j)) := by
          rw [ePrs, List.getElem?_map, List.getElem?_eraseIdx] at hx
          by_cases hki : k < i
          · rw [if_pos hki, List.getElem?_eq_getElem (by omega)] at hx
            refine ⟨k, by rw [← hL, ePrs, List.getElem?_map, List.getElem?_eq_getElem (by omega)]; exact hx, by omega, ?_⟩
            unfold lessC
            rw [List.getElem?_append_left (by rw [List.length_take, hnl2]; omega), List.getElem?_take, if_pos (by omega)]
            exact hgeto _ (by omega)
          · rw [if_neg hki, List.getElem?_eq_getElem (by omega)] at hx
            refine ⟨k + 1, by rw [← hL, ePrs, List.getElem?_map, List.getElem?_eq_getElem (by omega)]; exact hx, by omega, ?_⟩
            unfold lessC
            rw [List.getElem?_append_right (by rw [List.length_take, hnl2]; omega), List.length_take, hnl2, Nat.min_eq_left (by omega), List.getElem?_drop]
            rw [show (i + 1) * 5 + (k * 5 + j - i * 5) = (k + 1) * 5 + j by omega]
            exact hgeto _ (by omega)
        obtain ⟨k', h1, h2, h3⟩ := hold
        rw [h3]
        exact (hrp k' x j c h1 hc).mono hKeeps
    · refine ⟨hH.nodup, hH.shut, fun x hx => ?_⟩
      simp only [List.mem_cons, List.not_mem_nil, or_false] at hx
      subst hx
      exact ⟨cs, E, by rw [hbel.block b0 hb0]; exact hb, hcs.mono hKeeps⟩
end Go.Proofs.YtkhnjmbgkakngaaGreatDoor
