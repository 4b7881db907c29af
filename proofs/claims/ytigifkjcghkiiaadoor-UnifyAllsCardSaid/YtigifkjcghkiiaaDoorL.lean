/- The keys of a known map, sorted: contracts over known blocks. -/
import Derived.Test.YtigifkjcghkiiaaDoorK
import Derived.Test.YtigifkjcghkiiaaDoorG
set_option linter.unusedSimpArgs false
set_option linter.unusedVariables false
namespace Go.Proofs.YtigifkjcghkiiaaDoor
open Go Fp
set_option maxRecDepth 10000
set_option maxHeartbeats 16000000
set_option linter.unusedVariables false
set_option linter.unusedSimpArgs false

def kn (l : Kn) : List Int := (dom l).mergeSort fun x y => decide (x ≤ y)
abbrev fvK (b : Nat) : Value := .func (.func 78) #[] #[.pointer (some ⟨b, 0, none⟩)]

theorem keys_ok (b2 : Nat) : CallsG Tryd.prog (fnv 62) [] [.lit (.map (some b2))] [] fun r o h => o = 0 ∧ ∃ b3, r = .lit (fvK b3) ∧ h = [(b3, HO.cells [.lit (.map (some b2))])] := by
  refine ⟨62, #[], #[], rfl, ⟨Tryd.f62, Tryd.func62, rfl, rfl⟩, fun F w vs hfr hh ha hy => ?_⟩
  have hl := ha.len
  match vs, hl with
  | [v], _ =>
    have hv := (ha.rep 0 v _ rfl rfl).lit_eq.1
    subst hv
    have hyk : ykOf [Value.map (some b2)] [] = [] := rfl
    rw [hyk]
    refine (keys_calls (some b2) w).mono fun e w' hpo => ?_
    obtain ⟨rfl, rfl⟩ := hpo
    have hgr := Grow.alloc w (.cells #[.map (some b2)] 66)
    have hnew : (w.alloc (.cells #[.map (some b2)] 66)).heap[w.heap.size]? = some (.cells #[.map (some b2)] 66) := World.heap_alloc_new w _
    have hlt : ∀ b, b < w.heap.size → b ≠ w.heap.size := fun b hb he => by omega
    refine ⟨_, _, 0, _, fun b => if b = w.heap.size then some 0 else F b, rfl, ⟨rfl, w.heap.size, rfl, rfl⟩, Rep.lit _ rfl, fun sz h => by omega, ?_, fun b hb => .inl (by simp [hlt b hb]), fun b hb => ?_, ⟨?_, fun b hb => ?_, fun x hx => ?_⟩, fun b hb => ?_⟩
    · exact ⟨hgr.os, hgr.tape, hgr.output, hgr.size, fun b hb => .inr (.inr (hgr.block b hb))⟩
    · have hsz : (w.alloc (.cells #[.map (some b2)] 66)).heap.size = w.heap.size + 1 := by simp
      have : b ≠ w.heap.size := fun e => by omega
      simp only [this, if_false]
      exact hfr b (by omega)
    · simp [keys]
    · simp [keys] at hb
      subst hb; simp
    · simp at hx
      subst hx
      refine ⟨_, _, hnew, rfl, fun j u c hu hc => ?_⟩
      match j, hu, hc with
      | 0, hu, hc =>
        simp at hu hc
        subst hu; subst hc
        exact ⟨Rep.lit _ rfl, rfl⟩
      | j + 1, hu, hc => simp at hc
    · simp [keys] at hb
      subst hb
      exact .inr (Nat.le_refl _)

open Go.Maps Go.WideElems in
theorem sorted_ok {l : Kn} (hnd : (dom l).Nodup) (hin : ∀ n ∈ dom l, InR n) (hlen : l.length < 1000000) (b2 b3 : Nat) : CallsG Tryd.prog (fnv 61) [(b2, HO.mp (eKn l)), (b3, HO.cells [.lit (.map (some b2))])] [.lit (fvK b3)] [] fun r o h => r = .sl (eIs (kn l)) ∧ o = 0 ∧ h = [(b2, HO.mp (eKn l)), (b3, HO.cells [.lit (.map (some b2))])] := by
  refine ⟨61, #[], #[], rfl, ⟨Tryd.f61, Tryd.func61, rfl, rfl⟩, fun F w vs hfr hh ha hy => ?_⟩
  have hl := ha.len
  match vs, hl with
  | [v], _ =>
    have hv := (ha.rep 0 v _ rfl rfl).lit_eq.1
    subst hv
    have hyk : ykOf [fvK b3] [] = [] := rfl
    rw [hyk]
    obtain ⟨es, clock, k1, k2, k3⟩ := hh.ok (b2, HO.mp (eKn l)) (by simp)
    obtain ⟨cs, E, c1, c2⟩ := hh.ok (b3, HO.cells [.lit (.map (some b2))]) (by simp)
    simp only at k1 c1
    have hb3 := heap_lt c1
    have hcs : cs.toList = [.map (some b2)] := by
      obtain ⟨h1, h2⟩ := c2
      match hc : cs.toList, h1 with
      | [u], _ =>
        have := (h2 0 u _ (by rw [hc]; rfl) rfl).1.lit_eq.1
        rw [this]
    have hcell : w.cell? ⟨b3, 0, none⟩ = some (.map (some b2)) := by
      rw [World.cell_of_cells c1 0, ← Array.getElem?_toList, hcs]; rfl
    have hkeys : es.toList.map (·.key) = (dom l).map encZ := by
      refine List.ext_getElem (by rw [List.length_map, List.length_map, k3.1]; simp [dom, eKn]) fun j h1 h2 => ?_
      have hj : j < es.toList.length := by simpa using h1
      have hjl : j < l.length := by have := k3.1; simp [eKn] at this; simp at hj; omega
      have := ((k3.2 j es.toList[j] (.lit (.int .i64 l[j].1), eTy l[j].2) (List.getElem?_eq_getElem hj) (by simp [eKn, hjl])).1).lit_eq.1
      simp only [List.getElem_map, dom]
      exact this
    have hwf : ∀ n ∈ dom l, (Lit.int .i64 n).wf = true := fun n hn => by
      have := hin n hn
      unfold InR at this
      simp [Lit.wf, IntKind.min, IntKind.max, IntKind.signed, IntKind.bits]
      omega
    obtain ⟨R, hR⟩ : ∃ R : Value → Option (DataW Unit × List MemPlace), R = fun _ => some (.nil, []) := ⟨_, rfl⟩
    have hrd : ∀ x ∈ es.toList, ∃ n ∈ dom l, x.key = encZ n ∧ Go.WideElems.rd Tryd.prog 3 R x = some (.int .i64 n, .nil) := fun x hx => by
      have h1 : x.key ∈ (dom l).map encZ := by rw [← hkeys]; exact List.mem_map.2 ⟨x, hx, rfl⟩
      obtain ⟨n, hn, hk⟩ := List.mem_map.1 h1
      refine ⟨n, hn, hk.symm, ?_⟩
      unfold Go.WideElems.rd
      rw [← hk, keyOf_int_mk (by kernel_rfl) (hwf n hn), hR]; rfl
    have hsz : es.size = l.length := by have := k3.1; simpa [eKn] using this
    have hown : w.ownsMap Tryd.prog 3 R b2 es.size (.map ((es.toList.map (rg Tryd.prog 3 R)).foldr DataW.insert [])) :=
      ⟨es, clock, k1, ⟨by rw [hsz]; unfold maxLen; omega, ⟨k2.2, k2.1, by rw [hkeys]; exact List.pairwise_map.2 (hnd.imp fun hne h => hne (encZ_inj h))⟩, fun x hx => by obtain ⟨n, _, _, h⟩ := hrd x hx; exact ⟨_, h⟩⟩, Nat.le_refl _, rfl⟩
    have hperm : (intKeys (.map ((es.toList.map (rg Tryd.prog 3 R)).foldr DataW.insert []))).Perm (dom l) := by
      have h1 := (Go.WideShapes.sorted_perm (es.toList.map (rg Tryd.prog 3 R))).map fun p => _root_.Go.intOf p.1
      have h2 : (es.toList.map (rg Tryd.prog 3 R)).map (fun p => _root_.Go.intOf p.1) = dom l := by
        rw [List.map_map]
        have h3 : es.toList.map ((fun p => _root_.Go.intOf p.1) ∘ rg Tryd.prog 3 R) = (es.toList.map (·.key)).map fun v => match v with | .int _ n => n | _ => 0 := by
          rw [List.map_map]
          refine List.map_congr_left fun x hx => ?_
          obtain ⟨n, _, h4, h5⟩ := hrd x hx
          simp only [Function.comp, rg_of h5, h4]; rfl
        rw [h3, hkeys, List.map_map]
        exact List.map_id'' (fun _ => rfl) _
      rw [h2] at h1
      exact h1
    have hsize : Maps.size (.map ((es.toList.map (rg Tryd.prog 3 R)).foldr DataW.insert [])) = l.length := by
      rw [size_eq, (Go.WideShapes.sorted_perm _).length_eq, List.length_map, Array.length_toList, hsz]
    refine (sorted_calls b3 b2 es.size _ R w hb3 hcell hown (by rw [hsize]; unfold maxLen; omega) (by rw [hsize]; omega)).mono fun e w' hpo => ?_
    obtain ⟨v, ss, rfl, hS, hrow, hnil, hB⟩ := hpo
    have hms : (ss.mergeSort fun x y => decide (x ≤ y)) = kn l := mergeSort_of_perm_i (hS.trans hperm)
    rw [hms] at hrow
    have hgr : Grow w w' := ⟨hB.os, hB.tape, hB.output, hB.size, hB.block⟩
    have kp : Keeps F w F w' := hgr.keeps (fun b hb => rfl)
    have hkl : (kn l).length = ss.length := by rw [← hms]; simp
    refine ⟨v, _, 0, _, F, rfl, ⟨rfl, rfl, rfl⟩, ?_, fun sz h => by omega, ⟨hB.os, hB.tape, hB.output, hB.size, fun b hb => .inr (.inr (hB.block b hb))⟩, fun b hb => .inl rfl, fun b hb => hfr b (Nat.le_trans hB.size hb), ⟨hh.nodup, hh.shut, fun x hx => (hh.ok x hx).grow kp fun hb => hB.block _ hb⟩, fun b hb => .inl hb⟩
    obtain ⟨hr1, hr2⟩ := hrow
    rcases hr2 with ⟨rfl, h0⟩ | ⟨g, cap, cur, rfl, hg, hc, hn, _, hcs2, hcur⟩
    · have : kn l = [] := List.length_eq_zero_iff.1 (by omega)
      rw [this]; exact .slNil
    · have hF : F g = none := hfr g hg
      refine .sl g 0 ss.length cap 1 (eIs (kn l)) (fun k => encZ ((kn l).getD k 0)) (by simp [eIs, hkl]) hn (fun x hx => ?_) (fun x hx c hc2 => ?_) (fun k hk => ⟨?_, fun m hm => by rw [hF] at hm; cases hm⟩) (fun i x j c hx hj => ?_)
      · obtain ⟨u, _, rfl⟩ := List.mem_map.1 hx; rfl
      · obtain ⟨u, _, rfl⟩ := List.mem_map.1 hx
        simp [AV.cells] at hc2
        subst hc2; rfl
      · have hk' : k < (kn l).length := by omega
        rw [World.cell_of_cells hc, Nat.zero_add, ← Array.getElem?_toList]
        have h5 : (cur.toList.take (ss.length * 1))[k]? = ((kn l).map encZ)[k]? := by rw [hcur]
        rw [List.getElem?_take_of_lt (by omega)] at h5
        rw [h5]
        simp [hk']
      · obtain ⟨n, _, rfl⟩ := List.mem_map.1 (List.mem_of_getElem? hx)
        have hi : i < (kn l).length := by have := (List.getElem?_eq_some_iff.1 hx).1; simpa [eIs] using this
        have hxi : (kn l)[i] = n := by simp [eIs, hi] at hx; exact hx
        match j, hj with
        | 0, hj =>
          simp [AV.cells] at hj
          subst hj
          have : encZ ((kn l).getD (i * 1 + 0) 0) = .int .i64 n := by simp [hi, hxi]
          show Rep F w' (encZ ((kn l).getD (i * 1 + 0) 0)) _
          rw [this]
          exact .lit _ rfl
        | j + 1, hj => simp [AV.cells] at hj

theorem Known_ok {l : Kn} (hnd : (dom l).Nodup) (hin : ∀ n ∈ dom l, InR n) (hlen : l.length < 1000000) (b1 b2 : Nat) (k : Int) : CallsG Tryd.prog (fnv n_unify_Subst_Known) (stH b1 b2 k l) [sP b1] [] fun r o h => r = .sl (eIs (kn l)) ∧ o = 0 ∧ h = stH b1 b2 k l := by
  refine CallsG.lessS (post := fun r o hp => r = .sl (eIs (kn l)) ∧ ∃ b3, hp = stH b1 b2 k l ++ [(b3, HO.cells [.lit (.map (some b2))])]) ?_ (fun r o hp hpo => ?_)
  rotate_left
  · obtain ⟨h1, b3, rfl⟩ := hpo
    exact ⟨stH b1 b2 k l, List.sublist_append_left _ _, h1, rfl, rfl⟩
  refine callsG_of_wcx (first := []) (cap := []) ttok mixed Tryd.func34 rfl (by rfl) rfl (Nat.le_of_ble_eq_true rfl) (by kernel_rfl) ?_
  refine ⟨0, _, _, rfl, rfl, ?_⟩
  refine .inr (.inr (.inr (.inr (.inr (.inl ⟨[], [], [], _, rfl, List.nodup_nil, rfl, keys_ok b2, ?_⟩)))))
  rintro r w hp ⟨rfl, b3, rfl, rfl⟩
  refine .inr (.inr (.inl ⟨[1, 2], [(b2, HO.mp (eKn l)), (b3, HO.cells [.lit (.map (some b2))])], _, rfl, by decide, sorted_ok hnd hin hlen b2 b3, ?_⟩))
  exact ⟨rfl, b3, rfl⟩
end Go.Proofs.YtigifkjcghkiiaaDoor
