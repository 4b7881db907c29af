/- Behind an OK both types with all that is known are the same, and stay so, whatever is made one then: the statement's function is true. No condition but that numbers are integers of 64 bits. -/
import Derived.Test.YtigifkjcghkiiaaDoorG
set_option linter.unusedSimpArgs false
set_option linter.unusedVariables false
namespace Go.Proofs.YtigifkjcghkiiaaDoor
open Go Fp
set_option maxRecDepth 10000
set_option maxHeartbeats 16000000
set_option linter.unusedVariables false
set_option linter.unusedSimpArgs false

theorem same09_ok {l : Kn} (h : SOk l) {a b : Tp} (ga : good a) (gb : good b) (sa : a.sz ≤ 400) (sb : b.sz ≤ 400) : ∃ q : Bool, (fl l a = fl l b → q = true) ∧ ACall Tryd.prog n_fugueref04_Same [eTy (fl l a), eTy (fl l b)] (.sb q) := by
  have g1 := fl_good h ga
  have g2 := fl_good h gb
  refine ⟨_, fun e => ?_, rSame_ok (K := 24) (by decide) (good_low g1) (good_low g2) (good_nm g1) (good_nm g2) (Nat.le_trans (fl_size h.small sa) (by decide)) (Nat.le_trans (fl_size h.small sb) (by decide))⟩
  rw [e]; simp

theorem unifyEqual_ok {l m : List Int} (hl : l.length < 9223372036854775808) (hr : ∀ x ∈ l, InR x) (hm : m.length < 9223372036854775808) (hmr : ∀ x ∈ m, InR x) : ACall Tryd.prog n_fuguelaw09_UnifyEqual [.sl (eIs l), .sl (eIs m)] (.sb true) := by
  obtain ⟨a, b, hP1, ⟨ga, fa, za⟩, gb, fb, zb⟩ := pair_ok hl hr
  obtain ⟨c, d, hP2, ⟨gc, fc, zc⟩, gd, fd, zd⟩ := pair_ok hm hmr
  obtain ⟨e, l', l1, hS, hl1, hok1, hU, _⟩ := unify_law sok_nil ga gb fa fb
  obtain ⟨f, l2', l2, hS2, hl2, hok2, hU2, _⟩ := unify_law hok1 gc gd fc fd
  obtain ⟨q1, t1, hQ1⟩ := same09_ok hok1 ga gb (by omega) (by omega)
  obtain ⟨q2, t2, hQ2⟩ := same09_ok hok2 gc gd (by omega) (by omega)
  obtain ⟨q3, t3, hQ3⟩ := same09_ok hok2 ga gb (by omega) (by omega)
  have e1 : e = 0 → fl l1 a = fl l1 b := fun he => by rw [hl1, if_pos he]; exact hS.good he
  have sub : ∀ q ∈ l1, q ∈ l2 := fun q hq => by
    rw [hl2]; split
    · exact hS2.sub q hq
    · exact hq
  have e3 : e = 0 → fl l2 a = fl l2 b := fun he => fl_same hok2.ok sub (e1 he)
  have e2 : f = 0 → fl l2 c = fl l2 d := fun he => by rw [hl2, if_pos he]; exact hS2.good he
  clear hl1 hl2 hS hS2
  have hA := fun x b1 b2 k => Apply_ok hok1.ok x b1 b2 k
  have hB := fun x b1 b2 k => Apply_ok hok2.ok x b1 b2 k
  refine acall_of_wsem ttok mixed Tryd.func3 rfl (by rfl) (Nat.le_of_ble_eq_true rfl) (by kernel_rfl) ?_
  refine Wsem.seq ttok mixed ?_
  refine Wsem.seq ttok mixed ?_
  refine .inr (.inr (.inr (.inr (.inr (.inl ⟨[], [], [], _, rfl, List.nodup_nil, rfl, new_ok, ?_⟩)))))
  rintro r w hp ⟨rfl, b1, b2, rfl, rfl⟩
  refine Wsem.seq ttok mixed ?_
  refine Wsem.seq ttok mixed ?_
  refine .inl ⟨_, hP1, ?_⟩
  refine Wsem.seq ttok mixed ?_
  refine .inl ⟨_, hP2, ?_⟩
  refine Wsem.seq ttok mixed ?_
  refine .inr (.inr (.inr (.inr (.inr (.inl ⟨[0, 1], stH b1 b2 0 [], [], _, rfl, by decide, rfl, hU b1 b2 0, ?_⟩)))))
  rintro r w hp ⟨rfl, rfl, b3, rfl⟩
  refine Wsem.seq ttok mixed ?_
  refine .inr (.inr (.inl ⟨[0, 1], stH b1 b3 0 l1, _, rfl, by decide, hA a b1 b3 0, ?_⟩))
  refine .inr (.inr (.inl ⟨[0, 1], stH b1 b3 0 l1, _, rfl, by decide, hA b b1 b3 0, ?_⟩))
  refine .inl ⟨_, hQ1, ?_⟩
  refine ⟨by kernel_rfl, ?_⟩
  refine Wsem.seq ttok mixed ?_
  refine .inr (.inr (.inr (.inr (.inr (.inl ⟨[0, 1], stH b1 b3 0 l1, [], _, rfl, by decide, rfl, hU2 b1 b3 0, ?_⟩)))))
  rintro r w hp ⟨rfl, rfl, b4, rfl⟩
  refine Wsem.seq ttok mixed ?_
  refine .inr (.inr (.inl ⟨[0, 1], stH b1 b4 0 l2, _, rfl, by decide, hB c b1 b4 0, ?_⟩))
  refine .inr (.inr (.inl ⟨[0, 1], stH b1 b4 0 l2, _, rfl, by decide, hB d b1 b4 0, ?_⟩))
  refine .inl ⟨_, hQ2, ?_⟩
  refine ⟨by kernel_rfl, ?_⟩
  have tail : Wsem Tryd.prog (sndC (sndC (sndC (sndC (sndC (sndC (sndC (sndC (sndC (sndC (bodyC Tryd.f3))))))))))) (mkC { vs := [(12, sv f), (13, .v (.sb q2))], hp := stH b1 b4 0 l2 })
      (fun c => RetP tt Tryd.f3.results.toList (.sb true) (den c)) (fun _ _ => False) (fun c => RetP tt Tryd.f3.results.toList (.sb true) (den c)) := by
    refine Wsem.of ttok mixed ?_
    by_cases hf : f = 0
    · refine ⟨fun hbs => ?_, fun hbs => ?_⟩ <;> first | (exfalso; revert hbs; (simp [hf]); done) | skip
      rw [t2 (e2 hf)]
      refine ⟨fun hbs => ?_, fun hbs => ?_⟩ <;> first | (exfalso; revert hbs; intro hbs; cases hbs; done) | skip
      refine .inl ⟨_, lives_ok, ?_⟩
      exact rfl
    · refine ⟨fun hbs => ?_, fun hbs => ?_⟩ <;> first | (exfalso; revert hbs; (simp [hf]); done) | skip
      refine .inl ⟨_, lives_ok, ?_⟩
      exact rfl
  refine Wsem.seq ttok mixed ?_
  by_cases he : e = 0
  · subst he
    have h1 := t1 (e1 rfl)
    have h3 := t3 (e3 rfl)
    subst h1
    subst h3
    refine ⟨fun hbs => ?_, fun hbs => ?_⟩ <;> first | (exfalso; revert hbs; intro hbs; cases hbs; done) | skip
    refine ⟨fun hbs => ?_, fun hbs => ?_⟩ <;> first | (exfalso; revert hbs; intro hbs; cases hbs; done) | skip
    refine .inr (.inr (.inl ⟨[0, 1], stH b1 b4 0 l2, _, rfl, by decide, hB a b1 b4 0, ?_⟩))
    refine .inr (.inr (.inl ⟨[0, 1], stH b1 b4 0 l2, _, rfl, by decide, hB b b1 b4 0, ?_⟩))
    refine .inl ⟨_, hQ3, ?_⟩
    refine ⟨by kernel_rfl, ?_⟩
    refine ⟨fun hbs => ?_, fun hbs => ?_⟩ <;> first | (exfalso; revert hbs; intro hbs; cases hbs; done) | skip
    refine Wsem.cut _ ?_ tail
    exact ⟨⟨rfl, rfl, trivial⟩, trivial, rfl⟩
  · refine ⟨fun hbs => ?_, fun hbs => ?_⟩ <;> first | (exfalso; revert hbs; (simp [he]); done) | skip
    refine ⟨by kernel_rfl, ?_⟩
    refine Wsem.cut _ ?_ tail
    exact ⟨⟨rfl, rfl, trivial⟩, trivial, rfl⟩
end Go.Proofs.YtigifkjcghkiiaaDoor
