/- A part of the proof of a given statement: contracts of functions of the program, under no condition but those that each states. -/
import Derived.Test.YtocglbflmkadeaaDoorL19
import Derived.Test.YtocglbflmkadeaaDoorFpE
set_option linter.unusedSimpArgs false
set_option linter.unusedVariables false
namespace Go.Proofs.YtocglbflmkadeaaDoor
open Go Fp
set_option maxRecDepth 100000
set_option maxHeartbeats 8000000

theorem range_snoc (f : Nat → ByteArray × Tp) (k : Nat) : (List.range (k + 1)).map f = (List.range k).map f ++ [f k] := by rw [List.range_succ]; simp

theorem around_nn {n m : Nat} (hn : n < 9223372036854775808) (hm : 0 < m) : ACall Tryd.prog n_fugueref01_Around [.lit (.int .i64 (n : Nat)), .lit (.int .i64 (m : Nat))] (.lit (.int .i64 ((n % m : Nat) : Int))) := by
  refine acall_of_wc ttok mixed Tryd.func46 rfl (by rfl) (Nat.le_of_ble_eq_true rfl) (by kernel_rfl) ?_
  refine ⟨fun h => by simp at h; omega, fun h => ?_⟩
  refine ⟨by omega, ?_⟩
  exact rfl
theorem name_nn {n : Nat} (hn : n < 9223372036854775808) : ACall Tryd.prog n_fugueref04_Name [.lit (.int .i64 (n : Nat))] (.lit (.string (small4.getD (n % 4) .empty))) := by
  refine acall_of_wc ttok mixed Tryd.func17 rfl (by rfl) (Nat.le_of_ble_eq_true rfl) (by kernel_rfl) ?_
  refine .inl ⟨_, around_nn (m := 4) hn (by decide), ?_⟩
  have hr : n % 4 < 4 := Nat.mod_lt _ (by decide)
  generalize n % 4 = r at hr
  match r, hr with
  | 0, _ | 1, _ | 2, _ | 3, _ => exact ⟨_, by decide, rfl, rfl, rfl⟩
  | n + 4, h => omega
theorem small4_get {r : Nat} (hr : r < 4) : small4.getD r .empty ∈ small4 := by
  match r, hr with
  | 0, _ | 1, _ | 2, _ | 3, _ => simp [small4]
  | n + 4, h => omega
theorem small4_inj {r q : Nat} (hr : r < 4) (hq : q < 4) (h : small4.getD r .empty = small4.getD q .empty) : r = q := by
  match r, hr, q, hq with
  | 0, _, 0, _ | 1, _, 1, _ | 2, _, 2, _ | 3, _, 3, _ => rfl
  | 0, _, 1, _ | 0, _, 2, _ | 0, _, 3, _ | 1, _, 0, _ | 1, _, 2, _ | 1, _, 3, _ | 2, _, 0, _ | 2, _, 1, _ | 2, _, 3, _ | 3, _, 0, _ | 3, _, 1, _ | 3, _, 2, _ => simp [small4] at h
  | n + 4, h, _, _ => omega
  | _, _, n + 4, h => omega

theorem names_ok {n : Int} (hn : InR n) {l : List (List Int)} (hl : ∀ r ∈ l, (∀ x ∈ r, InR x) ∧ r.length < 9223372036854775808) (hll : l.length < 9223372036854775808) :
    ∃ ps : Env', ps.length ≤ 3 ∧ (ps.map (·.1)).Nodup ∧ (∀ p ∈ ps, p.1 ∈ small4 ∧ good p.2 ∧ p.2.sz ≤ 193) ∧ ACall Tryd.prog n_fuguelaw04_names [.lit (.int .i64 n), .sl (eRows l)] (.tup [.sl (eN ps), .sl (eB ps)]) := by
  obtain ⟨r, hr, hc⟩ := around_ok hn (m := 4) (by decide) (by decide)
  have hw : ∀ i : Nat, i < 3 → IntKind.i64.wrap ((r : Int) + (i : Int)) = ((r + i : Nat) : Int) := fun i hi => by rw [← Int.natCast_add]; exact wrap_nat (by omega)
  have hx : ∀ i : Nat, ∃ p : ByteArray × Tp, ∀ h : i < l.length, i < 3 → p.1 = small4.getD ((r + i) % 4) .empty ∧ (p.1 ∈ small4 ∧ good p.2 ∧ p.2.sz ≤ 193) ∧ ACall Tryd.prog n_fugueref04_Name [.lit (.int .i64 (IntKind.i64.wrap ((r : Int) + (i : Int))))] (.lit (.string p.1)) ∧ ACall Tryd.prog n_fugueref04_Made [.sl (eIs l[i])] (eTy p.2) := fun i => by
    by_cases h : i < l.length ∧ i < 3
    · have hsc := name_nn (n := r + i) (by omega)
      have hs := small4_get (r := (r + i) % 4) (by omega)
      rw [← hw i h.2] at hsc
      obtain ⟨t, ht, hg, hz⟩ := made_ok (hl _ (List.getElem_mem h.1)).2 (hl _ (List.getElem_mem h.1)).1
      exact ⟨(_, t), fun _ _ => ⟨rfl, ⟨hs, hg, hz⟩, hsc, ht⟩⟩
    · exact ⟨(.empty, .no), fun h1 h2 => absurd ⟨h1, h2⟩ h⟩
  obtain ⟨f, hf⟩ := Classical.axiomOfChoice hx
  have hel : (eRows l).length = l.length := by simp [eRows]
  refine ⟨(List.range (min l.length 3)).map f, by simp; omega, ?_, fun p hp => ?_, ?_⟩
  · rw [List.map_map, List.nodup_iff_pairwise_ne]
    refine List.pairwise_map.2 (List.Pairwise.imp_of_mem (fun {i j} hi hj h e => h ?_) List.nodup_range)
    have hi : i < min l.length 3 := by simpa using hi
    have hj : j < min l.length 3 := by simpa using hj
    have e : (f i).1 = (f j).1 := e
    rw [(hf i (by omega) (by omega)).1, (hf j (by omega) (by omega)).1] at e
    have := small4_inj (by omega) (by omega) e
    omega
  · obtain ⟨i, hi, rfl⟩ := List.mem_map.1 hp
    have hi : i < min l.length 3 := by simpa using hi
    exact (hf i (by omega) (by omega)).2.1
  · refine acall_of_wc ttok mixed Tryd.func37 rfl (by rfl) (Nat.le_of_ble_eq_true rfl) (by kernel_rfl) ?_
    refine ⟨{k : Nat // k ≤ l.length ∧ k ≤ 3}, fun k => { vs := [(0, .v (.lit (.int .i64 n))), (1, .v (.sl (eRows l))), (6, .v (.sl (eN ((List.range k.1).map f)))), (7, .v (.sl (eB ((List.range k.1).map f)))), (8, .v (.lit (.int .i64 (k.1 : Nat))))], ow := [(6, 0, 2), (7, 0, 5)] },
      fun k => l.length - k.1, ⟨0, Nat.zero_le _, Nat.zero_le _⟩, ⟨⟨rfl, rfl, rfl, rfl, rfl, trivial⟩, ⟨trivial, trivial, trivial⟩, rfl⟩, ?_⟩
    rintro ⟨k, hk, hk3⟩
    have fin : ¬ (k < l.length ∧ k < 3) → k = min l.length 3 := fun h => by omega
    refine ⟨fun h => ?_, fun h => ?_⟩
    · have h : k < l.length := by simp [hel] at h; omega
      refine ⟨fun h3 => ?_, fun h3 => ?_⟩
      · have h3 : k < 3 := by simp at h3; omega
        obtain ⟨_, _, h4, h5⟩ := hf k h h3
        refine .inl ⟨_, hc, ?_⟩
        refine .inl ⟨_, h4, ?_⟩
        refine ⟨by simp [eN_length]; omega, uniN _, uniS [_], ?_⟩
        refine ⟨.sl (eIs l[k]), by omega, by simp [eRows, h], rfl, ?_⟩
        refine .inl ⟨_, h5, ?_⟩
        refine ⟨by simp [eB_length]; omega, uniB _, uniT [_], ?_⟩
        refine ⟨⟨k + 1, by omega, by omega⟩, (show l.length - (k + 1) < l.length - k by omega), ⟨rfl, rfl, ?_, ?_, ?_, trivial⟩, ⟨rfl, rfl, trivial⟩, rfl⟩
        · rw [range_snoc]; exact congrArg (fun l => SV.v (AV.sl l)) (eN_snoc _ (f k).1 (f k).2)
        · rw [range_snoc]; exact congrArg (fun l => SV.v (AV.sl l)) (eB_snoc _ (f k).1 (f k).2)
        · exact congrArg (fun n => SV.v (AV.lit (Value.int .i64 n))) (wrap_succ (k := k) (by omega))
      · have h3 : ¬ k < 3 := by simp at h3; omega
        obtain rfl := fin (by omega)
        exact rfl
    · have h : ¬ k < l.length := by simp [hel] at h; omega
      obtain rfl := fin (by omega)
      exact rfl

theorem small4_low : ∀ s ∈ small4, Low 24 s := by
  have h : ∀ n : Nat, n < 24 → (lett n = ⟨#[UInt8.ofNat (97 + n)]⟩) := fun n hn => by rw [lett, if_pos (by omega), Nat.mod_eq_of_lt (by omega)]
  intro s hs
  unfold small4 at hs
  simp at hs
  rcases hs with rfl | rfl | rfl | rfl
  · exact ⟨0, by decide, h 0 (by decide)⟩
  · exact ⟨1, by decide, h 1 (by decide)⟩
  · exact ⟨2, by decide, h 2 (by decide)⟩
  · exact ⟨23, by decide, h 23 (by decide)⟩
theorem good_low {t : Tp} (h : good t) : LowT 24 t := by
  induction t with
  | no => trivial
  | mt n => trivial
  | con s => trivial
  | var s => exact small4_low s h
  | app a b iha ihb => exact ⟨iha h.1, ihb h.2⟩
  | all s a ih => exact ⟨small4_low s h.1, ih h.2⟩
theorem fit_good {t : Tp} {ps : Env'} (h : good t) (hs : t.sz ≤ 193) (hl : ps.length ≤ 3) (hp : ∀ p ∈ ps, p.1 ∈ small4 ∧ good p.2 ∧ p.2.sz ≤ 193) : Fit 24 t ps := by
  have := dp_sz t
  exact ⟨good_low h, fun p hq => good_low (hp p hq).2.1, by omega, by omega, by omega, fun p hq => by have := (hp p hq).2.2; omega⟩

theorem typesPuts_ok {l : List Int} (hl : l.length < 9223372036854775808) (hr : ∀ x ∈ l, InR x) {n : Int} (hn : InR n) {by' : List (List Int)} (hll : by'.length < 9223372036854775808) (hb : ∀ r ∈ by', (∀ x ∈ r, InR x) ∧ r.length < 9223372036854775808) :
    ACall Tryd.prog n_fuguelaw04_TypesPuts [.sl (eIs l), .lit (.int .i64 n), .sl (eRows by')] (.sb true) := by
  obtain ⟨t, h1, hg, hs⟩ := made_ok hl hr
  obtain ⟨ps, hp, _, hps, hc⟩ := names_ok hn hb hll
  have hf := fit_good hg hs hp hps
  refine acall_of_wc ttok mixed Tryd.func8 rfl (by rfl) (Nat.le_of_ble_eq_true rfl) (by kernel_rfl) ?_
  refine .inl ⟨_, h1, ?_⟩
  refine .inl ⟨_, hc, ?_⟩
  refine .inl ⟨_, subst_ok t.sz t (Nat.le_refl _) 24 ps hf, ?_⟩
  refine .inl ⟨_, rsubst_ok t.sz t (Nat.le_refl _) 24 ps hf, ?_⟩
  refine .inl ⟨_, equal_ok _ _, ?_⟩
  refine ⟨fun _ => ?_, fun h => by simp at h⟩
  refine .inl ⟨_, lives_ok, ?_⟩
  exact rfl
end Go.Proofs.YtocglbflmkadeaaDoor
