/- A part of the proof of a given statement: contracts of functions of the program, under no condition but those that each states. -/
import Derived.Test.YtocglbflmkadeaaDoorL18
set_option linter.unusedSimpArgs false
set_option linter.unusedVariables false
namespace Go.Proofs.YtocglbflmkadeaaDoor
open Go Fp
set_option maxRecDepth 100000
set_option maxHeartbeats 8000000

abbrev rsubstSays (t : Tp) (ps : Env') : Prop := ACall Tryd.prog n_fugueref04_Subst [eTy t, .sl (eN ps), .sl (eB ps)] (eTy (sub t ps))

theorem rsubst_all {K : Nat} {s : ByteArray} {a : Tp} {ps : Env'} (hf : Fit K (.all s a) ps) (ih : ∀ (K : Nat) (ps : Env'), Fit K a ps → rsubstSays a ps) : rsubstSays (.all s a) ps := by
  have h0 := hf.all0
  have h1 := hf.all1
  obtain ⟨_, hlows, hroom, hmany, hsz, hszs⟩ := hf
  simp only [Tp.sz, dp] at hroom hmany hsz
  refine acall_of_wc ttok mixed Tryd.func27 rfl (by rfl) (Nat.le_of_ble_eq_true rfl) (by kernel_rfl) ?_
  refine ⟨fun h => (by cases h), fun _ => ?_⟩
  refine ⟨fun h => (by cases h), fun _ => ?_⟩
  refine ⟨fun h => (by cases h), fun _ => ?_⟩
  refine ⟨_, by decide, rfl, rfl, ?_⟩
  refine .inl ⟨_, rFree_ok a (by omega), ?_⟩
  refine ⟨{k : Nat // k ≤ ps.length}, fun k => { vs := [(1, .v (.sl (eN ps))), (2, .v (.sl (eB ps))), (3, .box 0 (eTy (.all s a))), (6, .box 0 (eTy .no)), (8, .v (.sl (eSs (fv a)))), (9, .v (.sl (eN (kept s (fv a) (ps.take k.1))))), (10, .v (.sl (eB (kept s (fv a) (ps.take k.1))))), (11, .v (.sl (eSs (caught (kept s (fv a) (ps.take k.1)))))), (12, .v (.lit (.int .i64 (k.1 : Nat))))], ow := [(9, 0, 2), (10, 0, 5), (11, 0, 2)] },
    fun k => ps.length - k.1, ⟨0, Nat.zero_le _⟩, ⟨⟨rfl, rfl, rfl, rfl, rfl, rfl, rfl, rfl, rfl, trivial⟩, ⟨trivial, trivial, trivial, trivial⟩, rfl⟩, ?_⟩
  rintro ⟨k, hk⟩
  have hkl : (kept s (fv a) (ps.take k)).length ≤ k := by
    have := kept_length s (fv a) (ps.take k)
    simp at this; omega
  have hcl : (caught (kept s (fv a) (ps.take k))).length ≤ K * (kept s (fv a) (ps.take k)).length := caught_length fun p hp => hlows p (List.mem_of_mem_take (kept_mem hp))
  have hfl : (fv a).length ≤ a.sz := fv_length a
  have hK1 : K * (kept s (fv a) (ps.take k)).length ≤ 2600 * 5000 := Nat.mul_le_mul (by omega) (by omega)
  have wk' : k < ps.length → IntKind.i64.wrap ((k : Int) + 1) = ((k + 1 : Nat) : Int) := fun _ => wrap_succ (by omega)
  refine ⟨fun h => ?_, fun h => ?_⟩
  · have h : k < ps.length := by simp [eN_length] at h; omega
    have wk' := wk' h
    have ht := kept_take (s := s) (own := fv a) h
    refine ⟨_, by omega, eN_get h, rfl, ?_⟩
    refine ⟨fun h3 => ?_, fun h3 => ?_⟩
    · refine ⟨_, by omega, eN_get h, rfl, ?_⟩
      refine .inl ⟨_, has_ok (l := fv a) (s := ps[k].1) (by omega), ?_⟩
      refine ⟨fun h4 => ?_, fun h4 => ?_⟩
      · rw [if_pos (by
          have h5 : ¬ ps[k].1 = s := fun e => by
            have h3' : (!decide (ps[k].1 = s)) = true := h3
            rw [decide_eq_true e] at h3'; cases h3'
          rw [h4, decide_eq_true (p := ps[k].1 ≠ s) h5]; rfl)] at ht
        refine ⟨_, by omega, eN_get h, rfl, ?_⟩
        refine ⟨by simp [eN_length]; omega, uniN _, uniS [_], ?_⟩
        refine ⟨_, by omega, eB_get h, rfl, ?_⟩
        refine ⟨by simp [eB_length]; omega, uniB _, uniT [_], ?_⟩
        refine ⟨_, by omega, eB_get h, rfl, ?_⟩
        have hlt := hszs _ (List.getElem_mem h)
        have hfk : (fv ps[k].2).length ≤ ps[k].2.sz := fv_length _
        refine .inl ⟨_, rFree_ok ps[k].2 (by omega), ?_⟩
        refine ⟨by simp [eSs]; omega, uniS _, uniS _, ?_⟩
        refine ⟨⟨k + 1, h⟩, (show ps.length - (k + 1) < ps.length - k by omega), ⟨rfl, rfl, rfl, rfl, rfl, ?_, ?_, ?_, ?_, trivial⟩, ⟨rfl, rfl, rfl, trivial⟩, rfl⟩
        · rw [ht]; exact congrArg (fun l => SV.v (AV.sl l)) (eN_snoc _ ps[k].1 ps[k].2)
        · rw [ht]; exact congrArg (fun l => SV.v (AV.sl l)) (eB_snoc _ ps[k].1 ps[k].2)
        · rw [ht, caught_snoc]; exact congrArg (fun l => SV.v (AV.sl l)) (snocSS _ _)
        · exact congrArg (fun n => SV.v (AV.lit (Value.int .i64 n))) wk'
      · rw [if_neg (by rw [h4]; simp), List.append_nil] at ht
        refine ⟨⟨k + 1, h⟩, (show ps.length - (k + 1) < ps.length - k by omega), ⟨rfl, rfl, rfl, rfl, rfl, ?_, ?_, ?_, ?_, trivial⟩, ⟨rfl, rfl, rfl, trivial⟩, rfl⟩
        · rw [ht]; rfl
        · rw [ht]; rfl
        · rw [ht]; rfl
        · exact congrArg (fun n => SV.v (AV.lit (Value.int .i64 n))) wk'
    · rw [if_neg (by
        have h5 : ps[k].1 = s := Classical.byContradiction fun e => by
          have h3' : (!decide (ps[k].1 = s)) = false := h3
          rw [decide_eq_false e] at h3'; cases h3'
        rw [decide_eq_false (p := ps[k].1 ≠ s) (fun h => h h5)]; simp), List.append_nil] at ht
      refine ⟨⟨k + 1, h⟩, (show ps.length - (k + 1) < ps.length - k by omega), ⟨rfl, rfl, rfl, rfl, rfl, ?_, ?_, ?_, ?_, trivial⟩, ⟨rfl, rfl, rfl, trivial⟩, rfl⟩
      · rw [ht]; rfl
      · rw [ht]; rfl
      · rw [ht]; rfl
      · exact congrArg (fun n => SV.v (AV.lit (Value.int .i64 n))) wk'
  · have h : k = ps.length := by simp [eN_length] at h; omega
    subst h
    simp only [List.take_length] at hkl hcl hK1 ⊢
    obtain ⟨q, hq⟩ : ∃ q, q = kept s (fv a) ps := ⟨_, rfl⟩
    rw [← hq] at hkl hcl hK1 h0 h1 ⊢
    refine .inl ⟨_, has_ok (l := caught q) (s := s) (by omega), ?_⟩
    refine ⟨fun h3 => ?_, fun h3 => ?_⟩
    · obtain ⟨l, hl⟩ : ∃ l, l = caught q ++ fv a := ⟨_, rfl⟩
      obtain ⟨z, hz⟩ : ∃ z, z = lett (ff l) := ⟨_, rfl⟩
      have es : sub (.all s a) ps = .all z (sub a (q ++ [(s, .var z)])) := by rw [sub, ← hq, if_pos h3, ← hl, ← hz]
      have hll : l.length = (caught q).length + (fv a).length := by rw [hl]; simp
      rw [es]
      rw [← hl, ← hz] at h1
      have hi := ih (K + 1) _ h1.2
      unfold rsubstSays at hi
      rw [← eN_snoc, ← eB_snoc] at hi
      refine ⟨by simp [eSs]; omega, uniS _, uniS _, ?_⟩
      rw [snocSS, ← hl]
      refine ⟨{k : Nat // k ≤ ff l}, fun k => { vs := [(3, .box 0 (eTy (.all s a))), (6, .box 0 (eTy .no)), (9, .v (.sl (eN q))), (10, .v (.sl (eB q))), (11, .v (.sl (eSs l))), (14, .v (.lit (.int .i64 (k.1 : Nat))))], ow := [(9, 0, 2), (10, 0, 5)] },
        fun k => ff l - k.1, ⟨0, Nat.zero_le _⟩, ⟨⟨rfl, rfl, rfl, rfl, rfl, rfl, trivial⟩, ⟨rfl, rfl, trivial⟩, rfl⟩, ?_⟩
      rintro ⟨k, hk⟩
      refine .inl ⟨_, refletters_ok (n := k) (by omega), ?_⟩
      refine .inl ⟨_, has_ok (l := l) (s := lett k) (by omega), ?_⟩
      refine ⟨fun h4 => ?_, fun h4 => ?_⟩
      · have h4 : lett k ∈ l := memb_iff.1 h4
        have : k ≠ ff l := fun e => ff_new l (e ▸ h4)
        refine ⟨⟨k + 1, by omega⟩, (show ff l - (k + 1) < ff l - k by omega), ⟨rfl, rfl, rfl, rfl, rfl, ?_, trivial⟩, ⟨rfl, rfl, trivial⟩, rfl⟩
        exact congrArg (fun n => SV.v (AV.lit (Value.int .i64 n))) (wrap_succ (k := k) (by omega))
      · have h4 : lett k ∉ l := fun hm => by rw [memb_yes hm] at h4; cases h4
        have : k = ff l := by
          rcases Nat.lt_or_ge k (ff l) with q | q
          · exact absurd (ff_old l k q) h4
          · omega
        subst this
        refine .inl ⟨_, refletters_ok (n := ff l) (by omega), ?_⟩
        rw [← hz]
        refine ⟨by simp [eN_length]; omega, uniN _, uniS [_], ?_⟩
        refine ⟨by simp [eB_length]; omega, uniB _, uniT [.var z], ?_⟩
        refine ⟨_, by decide, rfl, rfl, ?_⟩
        refine .inl ⟨_, hi, ?_⟩
        exact rfl
    · have es : sub (.all s a) ps = .all s (sub a q) := by rw [sub, ← hq, if_neg (by rw [h3]; simp)]
      rw [es]
      refine ⟨_, by decide, rfl, rfl, ?_⟩
      refine .inl ⟨_, ih K q h0, ?_⟩
      exact rfl

theorem rsubst_ok (N : Nat) : ∀ (t : Tp), t.sz ≤ N → ∀ (K : Nat) (ps : Env'), Fit K t ps → rsubstSays t ps := by
  induction N with
  | zero => intro t h; have := sz_pos t; omega
  | succ N ih =>
    intro t h K ps hf
    have fin : ∀ t : Tp, ¬ t.form = 2 → ¬ t.form = 4 → ¬ t.form = 5 → rsubstSays t ps := fun t h2 h4 h5 => by
      have es : sub t ps = t := by cases t <;> first | rfl | exact absurd rfl h2 | exact absurd rfl h4 | exact absurd rfl h5
      unfold rsubstSays
      rw [es]
      refine acall_of_wc ttok mixed Tryd.func27 rfl (by rfl) (Nat.le_of_ble_eq_true rfl) (by kernel_rfl) ?_
      refine ⟨fun h => absurd (by simpa using h) h2, fun _ => ?_⟩
      refine ⟨fun h => absurd (by simpa using h) h4, fun _ => ?_⟩
      refine ⟨fun _ => ?_, fun h => absurd (by simpa using h) h5⟩
      exact rfl
    cases t with
    | no => exact fin _ (by decide) (by decide) (by decide)
    | mt n => exact fin _ (by simp [Tp.form]) (by simp [Tp.form]) (by simp [Tp.form])
    | con s => exact fin _ (by simp [Tp.form]) (by simp [Tp.form]) (by simp [Tp.form])
    | var x =>
      refine acall_of_wc ttok mixed Tryd.func27 rfl (by rfl) (Nat.le_of_ble_eq_true rfl) (by kernel_rfl) ?_
      have hm := hf.many
      refine ⟨fun _ => ?_, fun h => (by cases h)⟩
      refine .inl ⟨_, at_ok (l := ps.map (fun p : ByteArray × Tp => p.1)) (s := x) (by simp; omega), ?_⟩
      rcases look_ix (x := x) (ps := ps) with ⟨h1, h2⟩ | ⟨k, hk, h1, h2⟩
      · have es : sub (.var x) ps = .var x := by simp [sub, h1]
        rw [es, ixI_no h2]
        refine ⟨fun h => (by cases h), fun _ => ?_⟩
        exact rfl
      · have es : sub (.var x) ps = ps[k].2 := by simp [sub, h2]
        rw [es, h1]
        refine ⟨fun _ => ?_, fun h => (by simp at h)⟩
        refine ⟨_, by omega, eB_get hk, rfl, ?_⟩
        exact rfl
    | app a b =>
      simp only [Tp.sz] at h
      refine acall_of_wc ttok mixed Tryd.func27 rfl (by rfl) (Nat.le_of_ble_eq_true rfl) (by kernel_rfl) ?_
      refine ⟨fun h => (by cases h), fun _ => ?_⟩
      refine ⟨fun _ => ?_, fun h => (by cases h)⟩
      refine ⟨_, by decide, rfl, rfl, ?_⟩
      refine .inl ⟨_, ih a (by omega) K ps hf.app.1, ?_⟩
      refine ⟨_, by decide, rfl, rfl, ?_⟩
      refine .inl ⟨_, ih b (by omega) K ps hf.app.2, ?_⟩
      refine .inl ⟨_, app_ok _ _, ?_⟩
      exact rfl
    | all s a =>
      simp only [Tp.sz] at h
      exact rsubst_all hf (fun K ps hf => ih a (by omega) K ps hf)
end Go.Proofs.YtocglbflmkadeaaDoor
