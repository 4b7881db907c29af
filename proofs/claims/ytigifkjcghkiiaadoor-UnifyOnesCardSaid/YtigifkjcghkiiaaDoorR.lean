/- UnifyOnes: the statement's function is true. No condition but that numbers are integers of 64 bits. -/
import Derived.Test.YtigifkjcghkiiaaDoorQ
set_option linter.unusedSimpArgs false
set_option linter.unusedVariables false
namespace Go.Proofs.YtigifkjcghkiiaaDoor
open Go Fp
set_option maxRecDepth 10000
set_option maxHeartbeats 16000000
set_option linter.unusedVariables false
set_option linter.unusedSimpArgs false

theorem same30_ok {l K : Kn} (hS : SOk l) (hR : RelK l K) (b1 b2 : Nat) (k : Int) : CallsG Tryd.prog (fnv n_fuguelaw09_same) (stH b1 b2 k l) [sP b1, eS K] [] fun r o h => r = .sb true ∧ o = 0 ∧ h = stH b1 b2 k l := by
  have hfew := hS.few
  have hkn : kn K = kn l := by unfold kn; rw [hR.dm]
  have hRK := RKnown_ok (K := K) (by rw [hR.dm]; exact dom_nodup hS.ok) (fun n hn => by rw [hR.dm] at hn; obtain ⟨k, rfl, _⟩ := hS.dom_in n hn; omega) (by rw [hR.len]; omega)
  rw [hkn] at hRK
  have hkl : (kn l).length < 9223372036854775807 := by rw [kn_length]; simp [dom]; omega
  refine CallsG.less0 (post := fun r o h => r = .sb true ∧ h = stH b1 b2 k l) ?_ (fun r o h hp => ⟨h, [], by simp, hp.1, rfl, hp.2⟩)
  refine callsG_of_wcx (first := []) (cap := []) ttok mixed Tryd.func30 rfl (by rfl) rfl (Nat.le_of_ble_eq_true rfl) (by kernel_rfl) ?_
  refine .inr (.inr (.inl ⟨[0, 1], stH b1 b2 k l, _, rfl, by decide, hS.known b1 b2 k, ?_⟩))
  refine .inl ⟨_, hRK, ?_⟩
  refine .inl ⟨_, sameInts_ok (kn l) hkl, ?_⟩
  refine ⟨by kernel_rfl, ?_⟩
  refine ⟨fun hbs => ?_, fun hbs => ?_⟩ <;> first | (exfalso; revert hbs; (simp); done) | skip
  refine ⟨{i : Nat // i ≤ 6}, fun i => { vs := [(0, .v (sP b1)), (3, .box 0 (eS K)), (5, .v (.lit (.int .i64 (i.1 : Nat))))], hp := stH b1 b2 k l },
    fun i => 6 - i.1, ⟨1, by omega⟩, ⟨⟨rfl, rfl, rfl, trivial⟩, trivial, rfl⟩, ?_⟩
  rintro ⟨i, hi⟩
  have hA := Apply_ok hS.ok (.mt (i : Nat)) b1 b2 k
  have hF := hR.full (by omega) (a := .mt (i : Nat)) rfl
  refine ⟨fun h => ?_, fun h => ?_⟩
  · have h : i ≤ 5 := by have h := of_decide_eq_true h; simp only at h; omega
    refine .inr (.inr (.inl ⟨[0, 1], stH b1 b2 k l, _, rfl, by decide, hA, ?_⟩))
    refine .inl ⟨_, hF, ?_⟩
    refine .inl ⟨_, equal_ok _ _, ?_⟩
    refine ⟨by kernel_rfl, ?_⟩
    refine ⟨fun hbs => ?_, fun hbs => ?_⟩ <;> first | (exfalso; revert hbs; (simp); done) | skip
    refine ⟨⟨i + 1, by omega⟩, by simp; omega, ⟨rfl, rfl, svc (wrap_succ (k := i) (by omega)), trivial⟩, trivial, rfl⟩
  · exact ⟨rfl, rfl⟩

theorem bd_nil : Bd [] := fun q hq => by simp at hq
theorem plain_Pb {t : Tp} (hg : good t) (hf : flat t) (hz : t.sz ≤ 193) : Pb t := by
  refine ⟨hf, by have := (sz_tsz t).2; omega, ?_⟩
  clear hf hz
  induction t with
  | mt n => intro m hm; simp [mvs] at hm; subst hm; obtain ⟨k, rfl, hk⟩ := hg; exact ⟨k, rfl, by omega⟩
  | app a b iha ihb => intro m hm; simp [mvs] at hm; rcases hm with h | h; exact iha hg.1 m h; exact ihb hg.2 m h
  | all s a ih => intro m hm; exact ih hg.2 m hm
  | _ => intro m hm; simp [mvs] at hm

theorem unifyOnes_ok {by' : List (List Int)} (hll : by'.length < 9223372036854775808) (hb : ∀ r ∈ by', (∀ x ∈ r, InR x) ∧ r.length < 9223372036854775808) :
    ACall Tryd.prog n_fuguelaw09_UnifyOnes [.sl (eRows by')] (.sb true) := by
  have hel : (eRows by').length = by'.length := by simp [eRows]
  refine acall_of_wsem ttok mixed Tryd.func8 rfl (by rfl) (Nat.le_of_ble_eq_true rfl) (by kernel_rfl) ?_
  refine Wsem.seq ttok mixed ?_
  refine Wsem.seq ttok mixed ?_
  refine .inr (.inr (.inr (.inr (.inr (.inl ⟨[], [], [], _, rfl, List.nodup_nil, rfl, new_ok, ?_⟩)))))
  rintro r w hp ⟨rfl, b1, b2, rfl, rfl⟩
  refine Wsem.of ttok mixed ?_
  refine ⟨{p : Nat × Kn × Kn × Nat // p.1 ≤ by'.length ∧ SOk p.2.1 ∧ Bd p.2.1 ∧ RelK p.2.1 p.2.2.1}, fun p => { vs := [(0, .v (.sl (eRows by'))), (3, .v (sP b1)), (4, .box 0 (eS p.1.2.2.1)), (5, .v (.lit (.int .i64 (p.1.1 : Nat))))], hp := stH b1 p.1.2.2.2 0 p.1.2.1 },
    fun p => by'.length - p.1.1, ⟨(0, [], [], b2), Nat.zero_le _, sok_nil, bd_nil, RelK.nil⟩, ⟨⟨rfl, rfl, rfl, rfl, trivial⟩, trivial, rfl⟩, ?_⟩
  rintro ⟨⟨k, L, K, b2⟩, hk, hL, hBd, hR⟩
  simp only at hk hL hBd hR
  refine ⟨fun h => ?_, fun h => ?_⟩
  · have h : k < by'.length := by simp [hel] at h; omega
    refine ⟨fun h3 => ?_, fun h3 => ?_⟩
    · have hm := List.getElem_mem h
      obtain ⟨a, b, hP1, ⟨ga, fa, za⟩, gb, fb, zb⟩ := pair_ok (hb _ hm).2 (hb _ hm).1
      have pa := plain_Pb ga fa za
      have pb := plain_Pb gb fb zb
      obtain ⟨e, la, l1, hS1, hl1, hok1, hU1, _⟩ := unify_law hL ga gb fa fb
      obtain ⟨K', r1, r2, r3, r4⟩ := refU hS1.run K a b hR hL.ok hL.small hBd pa pb rfl rfl
      have hB1 : Bd l1 := by
        rw [hl1]; split
        · exact hS1.kp Pb Pb_app hBd pa pb
        · exact hBd
      have hR1 : RelK l1 K' := by
        rw [hl1]; split
        · rename_i he; exact r1 he
        · rename_i he; rw [r2 he]; exact hR
      refine ⟨.sl (eIs by'[k]), by omega, by simp [eRows, h], rfl, ?_⟩
      refine .inl ⟨_, hP1, ?_⟩
      refine .inl ⟨_, r4, ?_⟩
      refine .inr (.inr (.inr (.inr (.inr (.inl ⟨[0, 1], stH b1 b2 0 L, [], _, rfl, by decide, rfl, hU1 b1 b2 0, ?_⟩)))))
      rintro r w hp ⟨rfl, rfl, b3, rfl⟩
      refine ⟨fun hbs => ?_, fun hbs => ?_⟩ <;> first | (exfalso; revert hbs; (simp); done) | skip
      refine .inr (.inr (.inl ⟨[0, 1], stH b1 b3 0 l1, _, rfl, by decide, same30_ok hok1 hR1 b1 b3 0, ?_⟩))
      refine ⟨fun hbs => ?_, fun hbs => ?_⟩ <;> first | (exfalso; revert hbs; (simp); done) | skip
      refine ⟨⟨(k + 1, l1, K', b3), h, hok1, hB1, hR1⟩, (show by'.length - (k + 1) < by'.length - k by omega), ⟨rfl, rfl, rfl, svc (wrap_succ (k := k) (by omega)), trivial⟩, trivial, rfl⟩
    · refine .inl ⟨_, lives_ok, ?_⟩
      exact rfl
  · refine .inl ⟨_, lives_ok, ?_⟩
    exact rfl
end Go.Proofs.YtigifkjcghkiiaaDoor
