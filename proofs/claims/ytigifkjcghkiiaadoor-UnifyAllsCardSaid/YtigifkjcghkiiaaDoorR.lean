/- UnifyOnes: the statement's function is true. No condition but that numbers are integers of 64 bits. -/
import Derived.Test.YtigifkjcghkiiaaDoorQ
set_option linter.unusedSimpArgs false
set_option linter.unusedVariables false
namespace Go.Proofs.YtigifkjcghkiiaaDoor
open Go Fp
set_option maxRecDepth 10000
set_option maxHeartbeats 16000000
set_option linter.unusedVariables false
set_option linter.unusedSimpArgs false

theorem same30_ok {l K : Kn} (hS : SOk l) (hR : RelK l K) (b1 b2 : Nat) (k : Int) : CallsG Tryd.prog (fnv n_fuguelaw09_same) (stH b1 b2 k l) [sP b1, eS K] [] fun r o h => r = .sb true ∧ o = 0 ∧ h = stH b1 b2 k l := by
  have hfew := hS.few
  have hkn : kn K = kn l := by unfold kn; rw [hR.dm]
  have hRK := RKnown_ok (K := K) (by rw [hR.dm]; exact dom_nodup hS.ok) (fun n hn => by rw [hR.dm] at hn; obtain ⟨k, rfl, _⟩ := hS.dom_in n hn; omega) (by rw [hR.len]; omega)
  rw [hkn] at hRK
  have hkl : (kn l).length < 9223372036854775807 := by rw [kn_length]; simp [dom]; omega
  refine CallsG.less0 (post := fun r o h => r = .sb true ∧ h = stH b1 b2 k l) ?_ (fun r o h hp => ⟨h, [], by simp, hp.1, rfl, hp.2⟩)
  refine callsG_of_wcx (first := []) (cap := []) ttok mixed Tryd.func30 rfl (by rfl) rfl (Nat.le_of_ble_eq_true rfl) (by kernel_rfl) ?_
  refine .inr (.inr (.inl ⟨[0, 1], stH b1 b2 k l, _, rfl, by decide, hS.known b1 b2 k, ?_⟩))
  refine .inl ⟨_, hRK, ?_⟩
  refine .inl ⟨_, sameInts_ok (kn l) hkl, ?_⟩
  refine ⟨by kernel_rfl, ?_⟩
  refine ⟨fun hbs => ?_, fun hbs => ?_⟩ <;> first | (exfalso; revert hbs; (simp); done) | skip
  refine ⟨{i : Nat // i ≤ 6}, fun i => { vs := [(0, .v (sP b1)), (3, .box 0 (eS K)), (5, .v (.lit (.int .i64 (i.1 : Nat))))], hp := stH b1 b2 k l },
    fun i => 6 - i.1, ⟨1, by omega⟩, ⟨⟨rfl, rfl, rfl, trivial⟩, trivial, rfl⟩, ?_⟩
  rintro ⟨i, hi⟩
  have hA := Apply_ok hS.ok (.mt (i : Nat)) b1 b2 k
  have hF := hR.full (by omega) (a := .mt (i : Nat)) rfl
  refine ⟨fun h => ?_, fun h => ?_⟩
  · have h : i ≤ 5 := by have h := of_decide_eq_true h; simp only at h; omega
    refine .inr (.inr (.inl ⟨[0, 1], stH b1 b2 k l, _, rfl, by decide, hA, ?_⟩))
    refine .inl ⟨_, hF, ?_⟩
    refine .inl ⟨_, equal_ok _ _, ?_⟩
    refine ⟨by kernel_rfl, ?_⟩
    refine ⟨fun hbs => ?_, fun hbs => ?_⟩ <;> first | (exfalso; revert hbs; (simp); done) | skip
    refine ⟨⟨i + 1, by omega⟩, by simp; omega, ⟨rfl, rfl, svc (wrap_succ (k := i) (by omega)), trivial⟩, trivial, rfl⟩
  · exact ⟨rfl, rfl⟩

theorem bd_nil : Bd [] := fun q hq => by simp at hq
theorem plain_Pb {t : Tp} (hg : good t) (hf : flat t) (hz : t.sz ≤ 193) : Pb t := by
  refine ⟨hf, by have := (sz_tsz t).2; omega, ?_⟩
  clear hf hz
  induction t with
  | mt n => intro m hm; simp [mvs] at hm; subst hm; obtain ⟨k, rfl, hk⟩ := hg; exact ⟨k, rfl, by omega⟩
  | app a b iha ihb => intro m hm; simp [mvs] at hm; rcases hm with h | h; exact iha hg.1 m h; exact ihb hg.2 m h
  | all s a ih => intro m hm; exact ih hg.2 m hm
  | _ => intro m hm; simp [mvs] at hm

theorem unifyOnes_ok {by' : List (List Int)} (hll : by'.length < 9223372036854775808) (hb : ∀ r ∈ by', (∀ x ∈ r, InR x) ∧ r.length < 9223372036854775808) :
    ACall Tryd.prog n_fuguelaw09_UnifyOnes [.sl (eRows by')] (.sb true) := by
  have hel : (eRows by').length = by'.length := by simp [eRows]
  refine acall_of_wsem ttok mixed Tryd.func8 rfl (by rfl) (Nat.le_of_ble_eq_true rfl) (by kernel_rfl) ?_
  refine Wsem.seq ttok mixed ?_
  refine Wsem.seq ttok mixed ?_
  refine .inr (.inr (.inr (.inr (.inr (.inl ⟨[], [], [], _, rfl, List.nodup_nil, rfl, new_ok, ?_⟩)))))
  rintro r w hp ⟨rfl, b1, b2, rfl, rfl⟩
  refine Wsem.of ttok mixed ?_
  refine ⟨{p : Nat × Kn × Kn × Nat // p.1 ≤ by'.length ∧ SOk p.2.1 ∧ Bd p.2.1 ∧ RelK p.2.1 p.2.2.1}, fun p => { vs := [(0, .v (.sl (eRows by'))), (3, .v (sP b1)), (4, .box 0 (eS p.1.2.2.1)), (5, .v (.lit (.int .i64 (p.1.1 : Nat))))], hp := stH b1 p.1.2.2.2 0 p.1.2.1 },
    fun p => by'.length - p.1.1, ⟨(0, [], [], b2), Nat.zero_le _, sok_nil, bd_nil, RelK.nil⟩, ⟨⟨rfl, rfl, rfl, rfl, trivial⟩, trivial, rfl⟩, ?_⟩
  rintro ⟨⟨k, L, K, b2⟩, hk, hL, hBd, hR⟩
  simp only at hk hL hBd hR
  refine ⟨fun h => ?_, fun h => ?_⟩
  · have h : k < by'.length := by simp [hel] at h; omega
    refine ⟨fun h3 => ?_, fun h3 => ?_⟩
    · have hm := List.getElem_mem h
      obtain ⟨a, b, hP1, ⟨ga, fa, za⟩, gb, fb, zb⟩ := pair_ok (hb _ hm).2 (hb _ hm).1
      have pa := plain_Pb ga fa za
      have pb := plain_Pb gb fb zb
      obtain ⟨e, la, l1, hS1, hl1, hok1, hU1, _⟩ := unify_law hL ga gb fa fb
      obtain ⟨K', r1, r2, r3, r4⟩ := refU hS1.run K a b hR hL.ok hL.small hBd pa pb rfl rfl
      have hB1 : Bd l1 := by
        rw [hl1]; split
        · exact hS1.kp Pb Pb_app hBd pa pb
        · exact hBd
      have hR1 : RelK l1 K' := by
        rw [hl1]; split
        · rename_i he; exact r1 he
        · rename_i he; rw [r2 he]; exact hR
      refine ⟨.sl (eIs by'[k]), by omega, by simp [eRows, h], rfl, ?_⟩
      refine .inl ⟨_, hP1, ?_⟩
      refine .inl ⟨_, r4, ?_⟩
      refine .inr (.inr (.inr (.inr (.inr (.inl ⟨[0, 1], stH b1 b2 0 L, [], _, rfl, by decide, rfl, hU1 b1 b2 0, ?_⟩)))))
      rintro r w hp ⟨rfl, rfl, b3, rfl⟩
      refine ⟨fun hbs => ?_, fun hbs => ?_⟩ <;> first | (exfalso; revert hbs; (simp); done) | skip
      refine .inr (.inr (.inl ⟨[0, 1], stH b1 b3 0 l1, _, rfl, by decide, same30_ok hok1 hR1 b1 b3 0, ?_⟩))
      refine ⟨fun hbs => ?_, fun hbs => ?_⟩ <;> first | (exfalso; revert hbs; (simp); done) | skip
      refine ⟨⟨(k + 1, l1, K', b3), h, hok1, hB1, hR1⟩, (show by'.length - (k + 1) < by'.length - k by omega), ⟨rfl, rfl, rfl, svc (wrap_succ (k := k) (by omega)), trivial⟩, trivial, rfl⟩
    · refine .inl ⟨_, lives_ok, ?_⟩
      exact rfl
  · refine .inl ⟨_, lives_ok, ?_⟩
    exact rfl
end Go.Proofs.YtigifkjcghkiiaaDoor

namespace Go.Proofs.YtigifkjcghkiiaaDoor
open Go Fp
set_option maxRecDepth 10000
set_option maxHeartbeats 16000000
set_option linter.unusedVariables false
set_option linter.unusedSimpArgs false

structure Wk (l : Kn) : Prop where
  ok : Ok l
  flat : FlatK l
  small : greatF l = false
  bd : Bd l
theorem Wk.num {l : Kn} (h : Wk l) : ∀ n ∈ dom l, ∃ k : Nat, n = (k : Int) ∧ k < 100 := fun n hn => by
  obtain ⟨q, hq, rfl⟩ := List.mem_map.1 hn
  exact (h.bd q hq).2.2.2 q.1 (by simp [mvs])
theorem Wk.step {l l' : Kn} {a b : Tp} {e : Int} (h : Wk l) (hS : OneS l a b e l') (pa : Pb a) (pb : Pb b) : Wk (if e = 0 then l' else l) := by
  split
  · rename_i he
    exact ⟨hS.ok, hS.flat, hS.small he h.small, hS.kp Pb Pb_app h.bd pa pb⟩
  · exact h

theorem unifyGreat_ok {n : Int} (hn : InR n) (q : Bool) : ACall Tryd.prog n_fuguelaw09_UnifyGreat [.lit (.int .i64 n), .sb q] (.sb true) := by
  obtain ⟨r, hr, hc⟩ := around_ok hn (m := 13) (by decide) (by decide)
  have hr : r ≤ 12 := by omega
  have one : ∀ (L K : Kn) (m : Nat), Wk L → RelK L K → 1 ≤ m → m ≤ 20 → ∃ (e : Int) (l1 K' : Kn), Wk l1 ∧ RelK l1 K' ∧ RU K (.mt (m : Nat)) (.app (.app (.con arrow) (.mt ((m - 1 : Nat) : Int))) (.mt ((m - 1 : Nat) : Int))) (eR K' e) ∧
      ∀ b1 b2, CallsG Tryd.prog (fnv n_unify_Subst_Unify) (stH b1 b2 0 L) [sP b1, eTy (.mt (m : Nat)), eTy (.app (.app (.con arrow) (.mt ((m - 1 : Nat) : Int))) (.mt ((m - 1 : Nat) : Int)))] [] fun r o hp => r = .lit (.int .i64 e) ∧ o = 0 ∧ ∃ b3, hp = stH b1 b3 0 l1 := fun L K m hL hR hm hm2 => by
    have pa : Pb (.mt (m : Nat)) := ⟨trivial, by simp [tsz], fun k hk => by simp [mvs] at hk; exact ⟨m, hk, by omega⟩⟩
    have pb : Pb (.app (.app (.con arrow) (.mt ((m - 1 : Nat) : Int))) (.mt ((m - 1 : Nat) : Int))) := ⟨⟨⟨trivial, trivial⟩, trivial⟩, by simp [tsz], fun k hk => by simp [mvs] at hk; exact ⟨m - 1, by omega, by omega⟩⟩
    obtain ⟨e, l', hS, hU, _⟩ := unify_ok hL.ok hL.flat pa.1 pb.1
    obtain ⟨K', r1, r2, r3, r4⟩ := refU hS.run K _ _ hR hL.ok hL.small hL.bd pa pb rfl rfl
    refine ⟨e, _, K', hL.step hS pa pb, ?_, r4, fun b1 b2 => hU b1 b2 0⟩
    split
    · rename_i he; exact r1 he
    · rename_i he; rw [r2 he]; exact hR
  have tail : ∀ (L K : Kn) (b1 b2 : Nat), Wk L → RelK L K → Wsem Tryd.prog (sndC (sndC (sndC (sndC (sndC (sndC (bodyC Tryd.f9))))))) (mkC { vs := [(5, .v (sP b1)), (7, .box 0 (eS K))], hp := stH b1 b2 0 L })
      (fun c => RetP tt Tryd.f9.results.toList (.sb true) (den c)) (fun _ _ => False) (fun c => RetP tt Tryd.f9.results.toList (.sb true) (den c)) := fun L K b1 b2 hL hR => by
    have hlen := hL.bd.len hL.ok
    have hkn : kn K = kn L := by unfold kn; rw [hR.dm]
    have hRK := RKnown_ok (K := K) (by rw [hR.dm]; exact dom_nodup hL.ok) (fun n hn => by rw [hR.dm] at hn; obtain ⟨k, rfl, _⟩ := hL.num n hn; omega) (by rw [hR.len]; omega)
    rw [hkn] at hRK
    have hkl : (kn L).length < 9223372036854775807 := by rw [kn_length]; simp [dom]; omega
    have hKn := Known_ok (dom_nodup hL.ok) (fun n hn => by obtain ⟨k, rfl, hk⟩ := hL.num n hn; unfold InR; omega) (by omega) b1 b2 0
    refine Wsem.of ttok mixed ?_
    refine .inr (.inr (.inl ⟨[0, 1], stH b1 b2 0 L, _, rfl, by decide, hKn, ?_⟩))
    refine .inl ⟨_, hRK, ?_⟩
    refine .inl ⟨_, sameInts_ok (kn L) hkl, ?_⟩
    refine ⟨fun hbs => ?_, fun hbs => ?_⟩ <;> first | (exfalso; revert hbs; (simp); done) | skip
    refine .inl ⟨_, lives_ok, ?_⟩
    refine ⟨by kernel_rfl, ?_⟩
    exact rfl
  refine acall_of_wsem ttok mixed Tryd.func9 rfl (by rfl) (Nat.le_of_ble_eq_true rfl) (by kernel_rfl) ?_
  refine Wsem.seq ttok mixed ?_
  refine Wsem.seq ttok mixed ?_
  refine .inr (.inr (.inr (.inr (.inr (.inl ⟨[], [], [], _, rfl, List.nodup_nil, rfl, new_ok, ?_⟩)))))
  rintro r0 w hp ⟨rfl, b1, b2, rfl, rfl⟩
  refine Wsem.seq ttok mixed ?_
  refine Wsem.seq ttok mixed ?_
  refine .inl ⟨_, hc, ?_⟩
  refine Wsem.seq ttok mixed ?_
  refine Wsem.seq ttok mixed ?_
  refine ⟨{p : Nat × Kn × Kn × Nat // p.1 ≤ r ∧ Wk p.2.1 ∧ RelK p.2.1 p.2.2.1}, fun p => { vs := [(1, .v (.sb q)), (5, .v (sP b1)), (6, .v (.lit (.int .i64 (r : Nat)))), (7, .box 0 (eS p.1.2.2.1)), (8, .v (.lit (.int .i64 (p.1.1 : Nat))))], hp := stH b1 p.1.2.2.2 0 p.1.2.1 },
    fun p => r - p.1.1, ⟨(0, [], [], b2), Nat.zero_le _, ⟨ok_nil, fun q hq => by simp at hq, rfl, bd_nil⟩, RelK.nil⟩, ⟨⟨rfl, rfl, rfl, rfl, rfl, trivial⟩, trivial, rfl⟩, ?_⟩
  rintro ⟨⟨k, L, K, b2⟩, hk, hL, hR⟩
  simp only at hk hL hR
  refine ⟨fun h => ?_, fun h => ?_⟩
  rotate_left
  · refine Wsem.cut _ ?_ (tail L K b1 b2 hL hR)
    exact ⟨⟨rfl, rfl, trivial⟩, trivial, rfl⟩
  have h : k < r := by have h := of_decide_eq_true h; simp only at h; omega
  have go : ∀ (x y : Int) (m : Nat), 1 ≤ m → m ≤ 20 → x = ((m : Nat) : Int) → y = ((m - 1 : Nat) : Int) → ∃ (e : Int) (l1 K' : Kn), Wk l1 ∧ RelK l1 K' ∧ RU K (.mt x) (.app (.app (.con arrow) (.mt y)) (.mt y)) (eR K' e) ∧
      ∀ b1 b2, CallsG Tryd.prog (fnv n_unify_Subst_Unify) (stH b1 b2 0 L) [sP b1, eTy (.mt x), eTy (.app (.app (.con arrow) (.mt y)) (.mt y))] [] fun r o hp => r = .lit (.int .i64 e) ∧ o = 0 ∧ ∃ b3, hp = stH b1 b3 0 l1 := fun x y m h1 h2 hx hy => by
    subst hx; subst hy
    exact one L K m hL hR h1 h2
  cases q with
  | false =>
    have w1 : IntKind.i64.wrap (20 - (k : Int)) = ((20 - k : Nat) : Int) := by rw [show (20 : Int) - (k : Int) = ((20 - k : Nat) : Int) by omega]; exact wrap_nat (by omega)
    have w2 : IntKind.i64.wrap (IntKind.i64.wrap (20 - (k : Int)) - 1) = ((20 - k - 1 : Nat) : Int) := by
      rw [w1, show ((20 - k : Nat) : Int) - 1 = ((20 - k - 1 : Nat) : Int) by omega]; exact wrap_nat (by omega)
    obtain ⟨e, l1, K', hW, hR1, hru, hU⟩ := go _ _ (20 - k) (by omega) (by omega) w1 w2
    refine ⟨fun hbs => ?_, fun hbs => ?_⟩ <;> first | (exfalso; revert hbs; (simp); done) | skip
    refine .inl ⟨_, reffun_ok (.mt _) (.mt _), ?_⟩
    refine .inl ⟨_, hru, ?_⟩
    refine .inr (.inr (.inr (.inr (.inl (.inr ⟨rfl, [0, 1], stH b1 b2 0 L, [], _, rfl, by decide, rfl, hU b1 b2, ?_⟩)))))
    rintro r0 w hp ⟨rfl, rfl, b3, rfl⟩
    refine ⟨fun hbs => ?_, fun hbs => ?_⟩ <;> first | (exfalso; revert hbs; (simp); done) | skip
    refine ⟨⟨(k + 1, l1, K', b3), h, hW, hR1⟩, (show r - (k + 1) < r - k by omega), ⟨rfl, rfl, rfl, rfl, svc (wrap_succ (k := k) (by omega)), trivial⟩, trivial, rfl⟩
  | true =>
    have w0 : IntKind.i64.wrap (IntKind.i64.wrap ((r : Int) - 1) - (k : Int)) = ((r - 1 - k : Nat) : Int) := by
      rw [show (r : Int) - 1 = ((r - 1 : Nat) : Int) by omega, wrap_nat (by omega), show ((r - 1 : Nat) : Int) - (k : Int) = ((r - 1 - k : Nat) : Int) by omega]; exact wrap_nat (by omega)
    have w1 : IntKind.i64.wrap (20 - IntKind.i64.wrap (IntKind.i64.wrap ((r : Int) - 1) - (k : Int))) = ((20 - (r - 1 - k) : Nat) : Int) := by
      rw [w0, show (20 : Int) - ((r - 1 - k : Nat) : Int) = ((20 - (r - 1 - k) : Nat) : Int) by omega]; exact wrap_nat (by omega)
    have w2 : IntKind.i64.wrap (IntKind.i64.wrap (20 - IntKind.i64.wrap (IntKind.i64.wrap ((r : Int) - 1) - (k : Int))) - 1) = ((20 - (r - 1 - k) - 1 : Nat) : Int) := by
      rw [w1, show ((20 - (r - 1 - k) : Nat) : Int) - 1 = ((20 - (r - 1 - k) - 1 : Nat) : Int) by omega]; exact wrap_nat (by omega)
    obtain ⟨e, l1, K', hW, hR1, hru, hU⟩ := go _ _ (20 - (r - 1 - k)) (by omega) (by omega) w1 w2
    refine ⟨fun hbs => ?_, fun hbs => ?_⟩ <;> first | (exfalso; revert hbs; (simp); done) | skip
    refine .inl ⟨_, reffun_ok (.mt _) (.mt _), ?_⟩
    refine .inl ⟨_, hru, ?_⟩
    refine .inr (.inr (.inr (.inr (.inl (.inr ⟨rfl, [0, 1], stH b1 b2 0 L, [], _, rfl, by decide, rfl, hU b1 b2, ?_⟩)))))
    rintro r0 w hp ⟨rfl, rfl, b3, rfl⟩
    refine ⟨fun hbs => ?_, fun hbs => ?_⟩ <;> first | (exfalso; revert hbs; (simp); done) | skip
    refine ⟨⟨(k + 1, l1, K', b3), h, hW, hR1⟩, (show r - (k + 1) < r - k by omega), ⟨rfl, rfl, rfl, rfl, svc (wrap_succ (k := k) (by omega)), trivial⟩, trivial, rfl⟩
end Go.Proofs.YtigifkjcghkiiaaDoor
