/- UnifyTwice: the statement's function is true. No condition but that numbers are integers of 64 bits. -/
import Derived.Test.YtigifkjcghkiiaaDoorG
import Derived.Test.YtigifkjcghkiiaaDoorL
import Derived.Test.YtigifkjcghkiiaaDoorFpE
set_option linter.unusedSimpArgs false
set_option linter.unusedVariables false
namespace Go.Proofs.YtigifkjcghkiiaaDoor
open Go Fp
set_option maxRecDepth 10000
set_option maxHeartbeats 16000000
set_option linter.unusedVariables false
set_option linter.unusedSimpArgs false

theorem nodup_sub_len {α : Type} [DecidableEq α] : ∀ {l m : List α}, l.Nodup → (∀ x ∈ l, x ∈ m) → l.length ≤ m.length
  | [], _, _, _ => Nat.zero_le _
  | a :: l, m, hn, hs => by
    rw [List.nodup_cons] at hn
    have ha : a ∈ m := hs a (by simp)
    have := nodup_sub_len (l := l) (m := m.erase a) hn.2 fun x hx => (List.mem_erase_of_ne (fun e : x = a => hn.1 (by rw [← e]; exact hx))).2 (hs x (by simp [hx]))
    rw [List.length_erase_of_mem ha] at this
    have := List.length_pos_of_mem ha
    simp only [List.length_cons]; omega
theorem SOk.dom_in {l : Kn} (h : SOk l) : ∀ n ∈ dom l, ∃ k : Nat, n = (k : Int) ∧ k < 10 := fun n hn => by
  obtain ⟨q, hq, rfl⟩ := List.mem_map.1 hn
  exact (h.good q hq).2
theorem SOk.few {l : Kn} (h : SOk l) : l.length ≤ 10 := by
  have h1 : (dom l).length ≤ ((List.range 10).map fun k => ((k : Nat) : Int)).length := nodup_sub_len (dom_nodup h.ok) fun n hn => by
    obtain ⟨k, rfl, hk⟩ := h.dom_in n hn
    exact List.mem_map.2 ⟨k, by simpa using hk, rfl⟩
  simpa [dom] using h1
theorem SOk.known {l : Kn} (h : SOk l) (b1 b2 : Nat) (k : Int) : CallsG Tryd.prog (fnv n_unify_Subst_Known) (stH b1 b2 k l) [sP b1] [] fun r o hp => r = .sl (eIs (kn l)) ∧ o = 0 ∧ hp = stH b1 b2 k l := by
  have := h.few
  exact Known_ok (dom_nodup h.ok) (fun n hn => by obtain ⟨k, rfl, hk⟩ := h.dom_in n hn; unfold InR; omega) (by omega) b1 b2 k
theorem ok_prefix {l s : Kn} (h : Ok (l ++ s)) : Ok l := by
  induction s using snoc_ind with
  | h0 => simpa using h
  | h1 s a ih =>
    obtain ⟨n, t⟩ := a
    rw [← List.append_assoc] at h
    exact ih (ok_snoc.1 h).1
/-- What is one already is made one without anything more known. -/
theorem again {l l2 : Kn} {a b : Tp} {e : Int} (h : SOk l) (hab : fl l a = fl l b) (hS : OneS l b a e l2) : e = 0 ∧ l2 = l := by
  obtain ⟨k1, k2⟩ := hS.least (sg l) (sg_solves h.ok) (by rw [← fl_sbt, ← fl_sbt]; exact hab.symm)
  have he : e = 0 := k2.resolve_right fun he => by
    have := hS.great he
    rw [not_great k1 fun n _ => small_sg h.small n] at this
    cases this
  refine ⟨he, ?_⟩
  obtain ⟨s, rfl⟩ := hS.pre
  cases s with
  | nil => simp
  | cons q s =>
    exfalso
    obtain ⟨n, t⟩ := q
    have hok : Ok (l ++ [(n, t)]) := ok_prefix (s := s) (by have := hS.ok; simpa using this)
    obtain ⟨_, h2, h3⟩ := ok_snoc.1 hok
    have h4 := k1 n t (by simp)
    rw [sg_unknown h2, ← fl_sbt] at h4
    rw [← h4] at h3
    simp [mvs] at h3

theorem unifyTwice_ok {by' : List (List Int)} (hll : by'.length < 9223372036854775808) (hb : ∀ r ∈ by', (∀ x ∈ r, InR x) ∧ r.length < 9223372036854775808) {l : List Int} (hl : l.length < 9223372036854775808) (hr : ∀ x ∈ l, InR x) :
    ACall Tryd.prog n_fuguelaw09_UnifyTwice [.sl (eRows by'), .sl (eIs l)] (.sb true) := by
  obtain ⟨t, hP, gt, ft, zt⟩ := plain_ok hl hr
  have hel : (eRows by').length = by'.length := by simp [eRows]
  have tail : ∀ b1 b2 (L : Kn), SOk L → Wsem Tryd.prog (sndC (sndC (sndC (sndC (bodyC Tryd.f10))))) (mkC { vs := [(1, .v (.sl (eIs l))), (5, .v (sP b1))], hp := stH b1 b2 0 L })
      (fun c => RetP tt Tryd.f10.results.toList (.sb true) (den c)) (fun _ _ => False) (fun c => RetP tt Tryd.f10.results.toList (.sb true) (den c)) := fun b1 b2 L hL => by
    have hA := Apply_ok hL.ok t b1 b2 0
    have hA2 := Apply_ok hL.ok (fl L t) b1 b2 0
    rw [fl_idem hL.ok] at hA2
    refine Wsem.of ttok mixed ?_
    refine .inl ⟨_, hP, ?_⟩
    refine .inr (.inr (.inl ⟨[0, 1], stH b1 b2 0 L, _, rfl, by decide, hA, ?_⟩))
    refine .inr (.inr (.inl ⟨[0, 1], stH b1 b2 0 L, _, rfl, by decide, hA2, ?_⟩))
    refine .inl ⟨_, equal_ok _ _, ?_⟩
    refine ⟨fun hbs => ?_, fun hbs => ?_⟩ <;> first | (exfalso; revert hbs; (simp); done) | skip
    refine .inl ⟨_, lives_ok, ?_⟩
    refine ⟨by kernel_rfl, ?_⟩
    exact rfl
  refine acall_of_wsem ttok mixed Tryd.func10 rfl (by rfl) (Nat.le_of_ble_eq_true rfl) (by kernel_rfl) ?_
  refine Wsem.seq ttok mixed ?_
  refine Wsem.seq ttok mixed ?_
  refine .inr (.inr (.inr (.inr (.inr (.inl ⟨[], [], [], _, rfl, List.nodup_nil, rfl, new_ok, ?_⟩)))))
  rintro r w hp ⟨rfl, b1, b2, rfl, rfl⟩
  refine Wsem.seq ttok mixed ?_
  refine Wsem.seq ttok mixed ?_
  refine ⟨{p : Nat × Kn × Nat // p.1 ≤ by'.length ∧ p.1 ≤ 3 ∧ SOk p.2.1}, fun p => { vs := [(0, .v (.sl (eRows by'))), (1, .v (.sl (eIs l))), (5, .v (sP b1)), (6, .v (.lit (.int .i64 (p.1.1 : Nat))))], hp := stH b1 p.1.2.2 0 p.1.2.1 },
    fun p => by'.length - p.1.1, ⟨(0, [], b2), Nat.zero_le _, Nat.zero_le _, sok_nil⟩, ⟨⟨rfl, rfl, rfl, rfl, trivial⟩, trivial, rfl⟩, ?_⟩
  rintro ⟨⟨k, L, b2⟩, hk, hk3, hL⟩
  simp only at hk hk3 hL
  refine ⟨fun h => ?_, fun h => ?_⟩
  · have h : k < by'.length := by simp [hel] at h; omega
    refine ⟨fun h3 => ?_, fun h3 => ?_⟩
    · have h3 : k < 3 := by simp at h3; omega
      have hm := List.getElem_mem h
      obtain ⟨a, b, hP1, ⟨ga, fa, za⟩, gb, fb, zb⟩ := pair_ok (hb _ hm).2 (hb _ hm).1
      obtain ⟨e, la, l1, hS1, hl1, hok1, hU1, _⟩ := unify_law hL ga gb fa fb
      obtain ⟨e2, lb, l2, hS2, hl2, hok2, _, hU2⟩ := unify_law hok1 gb ga fb fa
      refine ⟨.sl (eIs by'[k]), by omega, by simp [eRows, h], rfl, ?_⟩
      refine .inl ⟨_, hP1, ?_⟩
      refine .inr (.inr (.inr (.inr (.inr (.inl ⟨[0, 1], stH b1 b2 0 L, [], _, rfl, by decide, rfl, hU1 b1 b2 0, ?_⟩)))))
      rintro r w hp ⟨rfl, rfl, b3, rfl⟩
      refine .inr (.inr (.inl ⟨[0, 1], stH b1 b3 0 l1, _, rfl, by decide, hok1.known b1 b3 0, ?_⟩))
      by_cases he : e = 0
      · subst he
        rw [if_pos rfl] at hl1
        have hab : fl l1 a = fl l1 b := by rw [hl1]; exact hS1.good rfl
        obtain ⟨he2, hlb⟩ := again hok1 hab hS2
        subst he2
        rw [if_pos rfl, hlb] at hl2
        subst hl2
        refine ⟨fun hbs => ?_, fun hbs => ?_⟩ <;> first | (exfalso; revert hbs; (simp); done) | skip
        refine .inr (.inr (.inr (.inl ⟨[0, 1], stH b1 b3 0 l2, stH b1 b3 0 l2, _, rfl, by decide, rfl, hU2 rfl b1 b3 0, ?_⟩)))
        refine ⟨fun hbs => ?_, fun hbs => ?_⟩ <;> first | (exfalso; revert hbs; (simp); done) | skip
        refine .inr (.inr (.inl ⟨[0, 1], stH b1 b3 0 l2, _, rfl, by decide, hok1.known b1 b3 0, ?_⟩))
        have hkl : (kn l2).length < 9223372036854775807 := by have := hok1.few; simp [kn, dom]; omega
        refine .inl ⟨_, sameInts_ok (kn l2) hkl, ?_⟩
        refine ⟨fun hbs => ?_, fun hbs => ?_⟩ <;> first | (exfalso; revert hbs; (simp); done) | skip
        refine ⟨⟨(k + 1, l2, b3), h, h3, hok1⟩, (show by'.length - (k + 1) < by'.length - k by omega), ⟨rfl, rfl, rfl, svc (wrap_succ (k := k) (by omega)), trivial⟩, trivial, rfl⟩
      · refine ⟨fun hbs => ?_, fun hbs => ?_⟩ <;> first | (exfalso; revert hbs; (simp [he]); done) | skip
        refine ⟨⟨(k + 1, l1, b3), h, h3, hok1⟩, (show by'.length - (k + 1) < by'.length - k by omega), ⟨rfl, rfl, rfl, svc (wrap_succ (k := k) (by omega)), trivial⟩, trivial, rfl⟩
    · refine Wsem.cut _ ?_ (tail b1 b2 L hL)
      exact ⟨⟨rfl, rfl, trivial⟩, trivial, rfl⟩
  · refine Wsem.cut _ ?_ (tail b1 b2 L hL)
    exact ⟨⟨rfl, rfl, trivial⟩, trivial, rfl⟩
end Go.Proofs.YtigifkjcghkiiaaDoor
