/- A part of the proof of a given statement: contracts of functions of the program, under no condition but those that each states. -/
import Derived.Test.YtocglbflmkadeaaDoorL21
set_option linter.unusedSimpArgs false
set_option linter.unusedVariables false
namespace Go.Proofs.YtocglbflmkadeaaDoor
open Go Fp
set_option maxRecDepth 100000
set_option maxHeartbeats 8000000

theorem rest_take {own : List ByteArray} {ns : List ByteArray} {k : Nat} (h : k < own.length) : (own.take (k + 1)).filter (fun x => !memb x ns) = (own.take k).filter (fun x => !memb x ns) ++ (if (!memb own[k] ns) = true then [own[k]] else []) := by
  rw [List.take_succ_eq_append_getElem h, List.filter_append]; simp [List.filter_cons]
theorem asked_take {own : List ByteArray} {ps : Env'} {k : Nat} (h : k < ps.length) : asked own (ps.take (k + 1)) = asked own (ps.take k) ++ (if memb ps[k].1 own = true then [ps[k]] else []) := by
  rw [List.take_succ_eq_append_getElem h]; unfold asked; rw [List.filter_append]; simp [List.filter_cons]
theorem getSp {l : List ByteArray} {k : Nat} (h : k < l.length) : (eSs l)[k]? = some (.lit (.string l[k])) := getS h

theorem typesCatches_ok {l : List Int} (hl : l.length < 9223372036854775808) (hr : ∀ x ∈ l, InR x) {n : Int} (hn : InR n) {by' : List (List Int)} (hll : by'.length < 9223372036854775808) (hb : ∀ r ∈ by', (∀ x ∈ r, InR x) ∧ r.length < 9223372036854775808) :
    ACall Tryd.prog n_fuguelaw04_TypesCatches [.sl (eIs l), .lit (.int .i64 n), .sl (eRows by')] (.sb true) := by
  obtain ⟨t, h1, hg, hs⟩ := made_ok hl hr
  obtain ⟨ps, hp, hnd, hps, hc⟩ := names_ok hn hb hll
  have hf := fit_good hg hs hp hps
  have hsz : (sub t ps).sz ≤ t.sz * 193 := sub_sz (by decide) t ps (fun p h => (hps p h).2.2)
  have hcat := catches t ps hnd
  obtain ⟨g, hgot⟩ : ∃ g, g = fv (sub t ps) := ⟨_, rfl⟩
  obtain ⟨o, ho⟩ : ∃ o, o = fv t := ⟨_, rfl⟩
  have hgl : g.length ≤ (sub t ps).sz := by rw [hgot]; exact fv_length _
  have hol : o.length ≤ 193 := by rw [ho]; exact Nat.le_trans (fv_length _) hs
  have e1 : (eSs o).length = o.length := by simp [eSs]
  have e2 : (eSs g).length = g.length := by simp [eSs]
  refine acall_of_wc ttok mixed Tryd.func9 rfl (by rfl) (Nat.le_of_ble_eq_true rfl) (by kernel_rfl) ?_
  refine .inl ⟨_, h1, ?_⟩
  refine .inl ⟨_, hc, ?_⟩
  refine .inl ⟨_, rFree_ok t (by omega), ?_⟩
  refine .inl ⟨_, subst_ok t.sz t (Nat.le_refl _) 24 ps hf, ?_⟩
  refine .inl ⟨_, free_ok (sub t ps).sz (by omega) _ (Nat.le_refl _), ?_⟩
  rw [← hgot, ← ho]
  rw [← ho, ← hgot] at hcat
  refine ⟨{k : Nat // k ≤ o.length}, fun k => { vs := [(8, .v (.sl (eN ps))), (9, .v (.sl (eB ps))), (10, .v (.sl (eSs o))), (11, .v (.sl (eSs g))), (12, .v (.sl (eSs ((o.take k.1).filter fun x => !memb x (ps.map (·.1)))))), (13, .v (.lit (.int .i64 (k.1 : Nat))))], ow := [(12, 0, 2)] },
    fun k => o.length - k.1, ⟨0, Nat.zero_le _⟩, ⟨⟨rfl, rfl, rfl, rfl, rfl, rfl, trivial⟩, ⟨trivial, trivial⟩, rfl⟩, ?_⟩
  rintro ⟨k, hk⟩
  refine ⟨fun h => ?_, fun h => ?_⟩
  · have h : k < o.length := by simp [e1] at h; omega
    have ht := rest_take (ns := ps.map (·.1)) h
    have hlk : ((o.take k).filter fun x => !memb x (ps.map (·.1))).length ≤ 193 := Nat.le_trans (List.length_filter_le _ _) (by simp; omega)
    have wk' : IntKind.i64.wrap ((k : Int) + 1) = ((k + 1 : Nat) : Int) := wrap_succ (by omega)
    refine ⟨_, by omega, getS h, rfl, ?_⟩
    refine .inl ⟨_, has_ok (l := ps.map (fun p : ByteArray × Tp => p.1)) (s := o[k]) (by simp; omega), ?_⟩
    refine ⟨fun h3 => ?_, fun h3 => ?_⟩
    · rw [if_pos h3] at ht
      refine ⟨_, by omega, getS h, rfl, ?_⟩
      refine ⟨by simp only [eSs, List.length_map, List.length_singleton]; omega, uniS _, uniS [_], ?_⟩
      refine ⟨⟨k + 1, h⟩, (show o.length - (k + 1) < o.length - k by omega), ⟨rfl, rfl, rfl, rfl, ?_, ?_, trivial⟩, ⟨rfl, trivial⟩, rfl⟩
      · rw [ht]; exact congrArg (fun l => SV.v (AV.sl l)) (snocS _ _)
      · exact congrArg (fun n => SV.v (AV.lit (Value.int .i64 n))) wk'
    · rw [if_neg (fun e => by rw [h3] at e; cases e), List.append_nil] at ht
      refine ⟨⟨k + 1, h⟩, (show o.length - (k + 1) < o.length - k by omega), ⟨rfl, rfl, rfl, rfl, ?_, ?_, trivial⟩, ⟨rfl, trivial⟩, rfl⟩
      · rw [ht]; rfl
      · exact congrArg (fun n => SV.v (AV.lit (Value.int .i64 n))) wk'
  have h : k = o.length := by simp [e1] at h; omega
  subst h
  simp only [List.take_length]
  have hr0 : (rest o ps).length ≤ 193 := Nat.le_trans (List.length_filter_le _ _) hol
  have hca : ∀ k, (caught (asked o (ps.take k))).length ≤ 24 * 3 := fun k => by
    have := caught_length (K := 24) (ps := asked o (ps.take k)) (fun p h => good_low (hps p (List.mem_of_mem_take (List.mem_filter.1 h).1)).2.1)
    have h2 : (asked o (ps.take k)).length ≤ (ps.take k).length := List.length_filter_le _ _
    simp only [List.length_take] at h2
    have : 24 * (asked o (ps.take k)).length ≤ 24 * 3 := Nat.mul_le_mul_left _ (by omega)
    omega
  refine ⟨{k : Nat // k ≤ ps.length}, fun k => { vs := [(8, .v (.sl (eN ps))), (9, .v (.sl (eB ps))), (10, .v (.sl (eSs o))), (11, .v (.sl (eSs g))), (12, .v (.sl (eSs (rest o ps ++ caught (asked o (ps.take k.1)))))), (14, .v (.lit (.int .i64 (k.1 : Nat))))], ow := [(12, 0, 2)] },
    fun k => ps.length - k.1, ⟨0, Nat.zero_le _⟩, ⟨⟨rfl, rfl, rfl, rfl, ?_, rfl, trivial⟩, ⟨rfl, trivial⟩, rfl⟩, ?_⟩
  · show SV.v (AV.sl (eSs (rest o ps))) = SV.v (AV.sl (eSs (rest o ps ++ [])))
    rw [List.append_nil]
  rintro ⟨k, hk⟩
  refine ⟨fun h => ?_, fun h => ?_⟩
  · have h : k < ps.length := by simp [eN_length] at h; omega
    have ht := asked_take (own := o) h
    have hck := hca k
    have wk' : IntKind.i64.wrap ((k : Int) + 1) = ((k + 1 : Nat) : Int) := wrap_succ (by omega)
    have hfk : (fv ps[k].2).length ≤ ps[k].2.sz := fv_length _
    have hz := (hps _ (List.getElem_mem h)).2.2
    refine ⟨_, by omega, eN_get h, rfl, ?_⟩
    refine .inl ⟨_, has_ok (l := o) (s := ps[k].1) (by omega), ?_⟩
    refine ⟨fun h3 => ?_, fun h3 => ?_⟩
    · rw [if_pos h3] at ht
      refine ⟨_, by omega, eB_get h, rfl, ?_⟩
      refine .inl ⟨_, rFree_ok ps[k].2 (by omega), ?_⟩
      refine ⟨by simp only [eSs, List.length_map, List.length_append]; omega, uniS _, uniS _, ?_⟩
      refine ⟨⟨k + 1, h⟩, (show ps.length - (k + 1) < ps.length - k by omega), ⟨rfl, rfl, rfl, rfl, ?_, ?_, trivial⟩, ⟨rfl, trivial⟩, rfl⟩
      · rw [ht, caught_snoc, ← List.append_assoc]; exact congrArg (fun l => SV.v (AV.sl l)) (snocSS _ _)
      · exact congrArg (fun n => SV.v (AV.lit (Value.int .i64 n))) wk'
    · rw [if_neg (fun e => by rw [h3] at e; cases e), List.append_nil] at ht
      refine ⟨⟨k + 1, h⟩, (show ps.length - (k + 1) < ps.length - k by omega), ⟨rfl, rfl, rfl, rfl, ?_, ?_, trivial⟩, ⟨rfl, trivial⟩, rfl⟩
      · rw [ht]; rfl
      · exact congrArg (fun n => SV.v (AV.lit (Value.int .i64 n))) wk'
  have h : k = ps.length := by simp [eN_length] at h; omega
  subst h
  have hck := hca ps.length
  rw [List.take_length] at hck
  simp only [List.take_length]
  obtain ⟨wt, hwt⟩ : ∃ wt, wt = rest o ps ++ caught (asked o ps) := ⟨_, rfl⟩
  rw [← hwt] at hcat ⊢
  have hwl : wt.length ≤ 193 + 24 * 3 := by rw [hwt, List.length_append]; omega
  have e3 : (eSs wt).length = wt.length := by simp [eSs]
  refine ⟨{k : Nat // k ≤ g.length}, fun k => { vs := [(11, .v (.sl (eSs g))), (12, .v (.sl (eSs wt))), (15, .v (.lit (.int .i64 (k.1 : Nat))))], ow := [] },
    fun k => g.length - k.1, ⟨0, Nat.zero_le _⟩, ⟨⟨rfl, rfl, rfl, trivial⟩, trivial, rfl⟩, ?_⟩
  rintro ⟨k, hk⟩
  refine ⟨fun h => ?_, fun h => ?_⟩
  · have h : k < g.length := by simp [e2] at h; omega
    refine ⟨_, by omega, getS h, rfl, ?_⟩
    refine .inl ⟨_, has_ok (l := wt) (s := g[k]) (by omega), ?_⟩
    rw [memb_yes ((hcat _).2 (List.getElem_mem h))]
    refine ⟨fun h => by simp at h, fun _ => ?_⟩
    refine ⟨⟨k + 1, h⟩, (show g.length - (k + 1) < g.length - k by omega), ⟨rfl, rfl, ?_, trivial⟩, trivial, rfl⟩
    exact congrArg (fun n => SV.v (AV.lit (Value.int .i64 n))) (wrap_succ (k := k) (by omega))
  refine ⟨{k : Nat // k ≤ wt.length}, fun k => { vs := [(11, .v (.sl (eSs g))), (12, .v (.sl (eSs wt))), (16, .v (.lit (.int .i64 (k.1 : Nat))))], ow := [] },
    fun k => wt.length - k.1, ⟨0, Nat.zero_le _⟩, ⟨⟨rfl, rfl, rfl, trivial⟩, trivial, rfl⟩, ?_⟩
  rintro ⟨k, hk⟩
  refine ⟨fun h => ?_, fun h => ?_⟩
  · have h : k < wt.length := by simp [e3] at h; omega
    refine ⟨_, by omega, getS h, rfl, ?_⟩
    refine .inl ⟨_, has_ok (l := g) (s := wt[k]) (by omega), ?_⟩
    rw [memb_yes ((hcat _).1 (List.getElem_mem h))]
    refine ⟨fun h => by simp at h, fun _ => ?_⟩
    refine ⟨⟨k + 1, h⟩, (show wt.length - (k + 1) < wt.length - k by omega), ⟨rfl, rfl, ?_, trivial⟩, trivial, rfl⟩
    exact congrArg (fun n => SV.v (AV.lit (Value.int .i64 n))) (wrap_succ (k := k) (by omega))
  refine .inl ⟨_, lives_ok, ?_⟩
  exact rfl
end Go.Proofs.YtocglbflmkadeaaDoor
