/- Two pairs are both made one in either row, or in neither; then what is known of a type is the same size: the statement's function is true. No condition but that numbers are integers of 64 bits. -/
import Derived.Test.YtigifkjcghkiiaaDoorG
set_option linter.unusedSimpArgs false
set_option linter.unusedVariables false
namespace Go.Proofs.YtigifkjcghkiiaaDoor
open Go Fp
set_option maxRecDepth 10000
set_option maxHeartbeats 16000000
set_option linter.unusedVariables false
set_option linter.unusedSimpArgs false

theorem size_tsz : ∀ t : Tp, size t = tsz t
  | .app a b => by rw [size, tsz, size_tsz a, size_tsz b]
  | .all _ a => by rw [size, tsz, size_tsz a]
  | .no => rfl
  | .mt _ => rfl
  | .var _ => rfl
  | .con _ => rfl
theorem row1 {a b c d : Tp} {l1 l2 lc m1 ld : Kn} {g h : Int} (S1 : OneS [] a b 0 l1) (S2 : OneS l1 c d 0 l2) (T1 : OneS [] d c g lc) (hm : m1 = if g = 0 then lc else []) (T2 : OneS m1 b a h ld) (hg : g ≠ 39) (hh : h ≠ 39) :
    g = 0 ∧ h = 0 ∧ Solves (sg l2) ld := by
  have h1 : sbt (sg l2) a = sbt (sg l2) b := by rw [← fl_sbt, ← fl_sbt]; exact fl_same S2.ok S2.sub (S1.good rfl)
  have h2 : sbt (sg l2) c = sbt (sg l2) d := by rw [← fl_sbt, ← fl_sbt]; exact S2.good rfl
  have k1 := T1.least (sg l2) (fun n t hn => by simp at hn) h2.symm
  have hg0 : g = 0 := k1.2.resolve_right hg
  rw [if_pos hg0] at hm
  subst hm
  have k2 := T2.least (sg l2) k1.1 h1.symm
  exact ⟨hg0, k2.2.resolve_right hh, k2.1⟩
theorem row_size {l m : Kn} (h1 : Solves (sg l) m) (h2 : Solves (sg m) l) (t : Tp) : size (fl l t) = size (fl m t) := by
  rw [size_tsz, size_tsz]
  have k1 := solves_fl h1 t
  have k2 := solves_fl h2 t
  have j1 := tsz_sbt (sg l) (fl m t)
  have j2 := tsz_sbt (sg m) (fl l t)
  rw [k1, ← fl_sbt] at j1
  rw [k2, ← fl_sbt] at j2
  omega

theorem unifyRow_ok {l m k : List Int} (hl : l.length < 9223372036854775808) (hr : ∀ x ∈ l, InR x) (hm : m.length < 9223372036854775808) (hmr : ∀ x ∈ m, InR x) (hk : k.length < 9223372036854775808) (hkr : ∀ x ∈ k, InR x) : ACall Tryd.prog n_fuguelaw09_UnifyRow [.sl (eIs l), .sl (eIs m), .sl (eIs k)] (.sb true) := by
  obtain ⟨a, b, hP1, ⟨ga, fa, za⟩, gb, fb, zb⟩ := pair_ok hl hr
  obtain ⟨c, d, hP2, ⟨gc, fc, zc⟩, gd, fd, zd⟩ := pair_ok hm hmr
  obtain ⟨t, hP3, gt, ft, zt⟩ := plain_ok hk hkr
  obtain ⟨e, la, l1, hS1, hl1, hok1, hU1, _⟩ := unify_law sok_nil ga gb fa fb
  obtain ⟨f, lb, l2, hS2, hl2, hok2, hU2, _⟩ := unify_law hok1 gc gd fc fd
  obtain ⟨g, lc, m1, hT1, hm1, hokm1, hV1, _⟩ := unify_law sok_nil gd gc fd fc
  obtain ⟨h, ld, m2, hT2, hm2, hokm2, hV2, _⟩ := unify_law hokm1 gb ga fb fa
  have A1 : e = 0 → f = 0 → g ≠ 39 → h ≠ 39 → g = 0 ∧ h = 0 ∧ Solves (sg l2) m2 := fun he hf hg hh => by
    subst he; subst hf
    rw [if_pos rfl] at hl1 hl2
    subst hl1; subst hl2
    obtain ⟨k1, k2, k3⟩ := row1 hS1 hS2 hT1 hm1 hT2 hg hh
    rw [if_pos k2] at hm2
    subst hm2
    exact ⟨k1, k2, k3⟩
  have A2 : g = 0 → h = 0 → e ≠ 39 → f ≠ 39 → e = 0 ∧ f = 0 ∧ Solves (sg m2) l2 := fun hg hh he hf => by
    subst hg; subst hh
    rw [if_pos rfl] at hm1 hm2
    subst hm1; subst hm2
    obtain ⟨k1, k2, k3⟩ := row1 hT1 hT2 hS1 hl1 hS2 he hf
    rw [if_pos k2] at hl2
    subst hl2
    exact ⟨k1, k2, k3⟩
  have hsz : e = 0 → f = 0 → g = 0 → h = 0 → size (fl l2 t) = size (fl m2 t) := fun he hf hg hh => row_size (A1 he hf (by omega) (by omega)).2.2 (A2 hg hh (by omega) (by omega)).2.2 t
  have A1' : e = 0 → f = 0 → g ≠ 39 → h ≠ 39 → g = 0 ∧ h = 0 := fun x y z w => ⟨(A1 x y z w).1, (A1 x y z w).2.1⟩
  have A2' : g = 0 → h = 0 → e ≠ 39 → f ≠ 39 → e = 0 ∧ f = 0 := fun x y z w => ⟨(A2 x y z w).1, (A2 x y z w).2.1⟩
  clear A1 A2 hl1 hl2 hm1 hm2 hS1 hS2 hT1 hT2
  have hA := fun b1 b2 k => Apply_ok hok2.ok t b1 b2 k
  have hB := fun b1 b2 k => Apply_ok hokm2.ok t b1 b2 k
  have z1 := fl_size hok2.small (t := t) (by omega)
  have z2 := fl_size hokm2.small (t := t) (by omega)
  have hC := rsize_ok 400000 (by decide) (fl l2 t) z1
  have hD := rsize_ok 400000 (by decide) (fl m2 t) z2
  refine acall_of_wsem ttok mixed Tryd.func5 rfl (by rfl) (Nat.le_of_ble_eq_true rfl) (by kernel_rfl) ?_
  refine Wsem.seq ttok mixed ?_
  refine Wsem.seq ttok mixed ?_
  refine .inr (.inr (.inr (.inr (.inr (.inl ⟨[], [], [], _, rfl, List.nodup_nil, rfl, new_ok, ?_⟩)))))
  rintro r w hp ⟨rfl, b1, b2, rfl, rfl⟩
  refine Wsem.seq ttok mixed ?_
  refine .inr (.inr (.inr (.inr (.inr (.inl ⟨[], [], [], _, rfl, List.nodup_nil, rfl, new_ok, ?_⟩)))))
  rintro r w hp ⟨rfl, c1, c2, rfl, rfl⟩
  refine Wsem.seq ttok mixed ?_
  refine Wsem.seq ttok mixed ?_
  refine .inl ⟨_, hP1, ?_⟩
  refine Wsem.seq ttok mixed ?_
  refine .inl ⟨_, hP2, ?_⟩
  refine Wsem.seq ttok mixed ?_
  refine .inr (.inr (.inr (.inr (.inr (.inl ⟨[0, 1], stH b1 b2 0 [], [], _, rfl, by decide, rfl, hU1 b1 b2 0, ?_⟩)))))
  rintro r w hp ⟨rfl, rfl, b3, rfl⟩
  refine Wsem.seq ttok mixed ?_
  refine .inr (.inr (.inr (.inr (.inr (.inl ⟨[2, 3], stH b1 b3 0 l1, [], _, rfl, by decide, rfl, hU2 b1 b3 0, ?_⟩)))))
  rintro r w hp ⟨rfl, rfl, b4, rfl⟩
  refine Wsem.seq ttok mixed ?_
  refine .inr (.inr (.inr (.inr (.inr (.inl ⟨[0, 1], stH c1 c2 0 [], [], _, rfl, by decide, rfl, hV1 c1 c2 0, ?_⟩)))))
  rintro r w hp ⟨rfl, rfl, c3, rfl⟩
  refine Wsem.seq ttok mixed ?_
  refine .inr (.inr (.inr (.inr (.inr (.inl ⟨[2, 3], stH c1 c3 0 m1, [], _, rfl, by decide, rfl, hV2 c1 c3 0, ?_⟩)))))
  rintro r w hp ⟨rfl, rfl, c4, rfl⟩
  have fin : (g = 0 ∧ h = 0 ∧ e = 0 ∧ f = 0) → Wsem Tryd.prog (sndC (sndC (sndC (sndC (sndC (sndC (sndC (sndC (sndC (sndC (sndC (sndC (sndC (bodyC Tryd.f5)))))))))))))) (mkC { vs := [(2, .v (.sl (eIs k))), (7, .v (sP b1)), (8, .v (sP c1))], hp := stH b1 b4 0 l2 ++ stH c1 c4 0 m2 })
      (fun c => RetP tt Tryd.f5.results.toList (.sb true) (den c)) (fun _ _ => False) (fun c => RetP tt Tryd.f5.results.toList (.sb true) (den c)) := fun hall => by
    have hsz := hsz hall.2.2.1 hall.2.2.2 hall.1 hall.2.1
    refine Wsem.seq ttok mixed ?_
    refine .inl ⟨_, hP3, ?_⟩
    refine Wsem.of ttok mixed ?_
    refine .inr (.inr (.inl ⟨[0, 1], stH b1 b4 0 l2, _, rfl, by decide, hA b1 b4 0, ?_⟩))
    refine .inl ⟨_, hC, ?_⟩
    refine .inr (.inr (.inl ⟨[2, 3], stH c1 c4 0 m2, _, rfl, by decide, hB c1 c4 0, ?_⟩))
    refine .inl ⟨_, hD, ?_⟩
    refine ⟨fun hbs => ?_, fun hbs => ?_⟩ <;> first | (exfalso; revert hbs; (simp [hsz]); done) | skip
    refine .inl ⟨_, lives_ok, ?_⟩
    refine ⟨by kernel_rfl, ?_⟩
    exact rfl
  refine Wsem.seq ttok mixed ?_
  by_cases he9 : e = 39
  · refine ⟨fun hbs => ?_, fun hbs => ?_⟩ <;> first | (exfalso; revert hbs; (simp [he9]); done) | skip
    refine .inl (Exists.intro _ (And.intro lives_ok ?_))
    exact rfl
  refine ⟨fun hbs => ?_, fun hbs => ?_⟩ <;> first | (exfalso; revert hbs; (simp [he9]); done) | skip
  by_cases hf9 : f = 39
  · refine ⟨fun hbs => ?_, fun hbs => ?_⟩ <;> first | (exfalso; revert hbs; (simp [hf9]); done) | skip
    refine .inl (Exists.intro _ (And.intro lives_ok ?_))
    exact rfl
  refine ⟨fun hbs => ?_, fun hbs => ?_⟩ <;> first | (exfalso; revert hbs; (simp [hf9]); done) | skip
  by_cases hg9 : g = 39
  · refine ⟨fun hbs => ?_, fun hbs => ?_⟩ <;> first | (exfalso; revert hbs; (simp [hg9]); done) | skip
    refine .inl (Exists.intro _ (And.intro lives_ok ?_))
    exact rfl
  refine ⟨fun hbs => ?_, fun hbs => ?_⟩ <;> first | (exfalso; revert hbs; (simp [hg9]); done) | skip
  by_cases hh9 : h = 39
  · refine ⟨fun hbs => ?_, fun hbs => ?_⟩ <;> first | (exfalso; revert hbs; (simp [hh9]); done) | skip
    refine .inl (Exists.intro _ (And.intro lives_ok ?_))
    exact rfl
  refine ⟨fun hbs => ?_, fun hbs => ?_⟩ <;> first | (exfalso; revert hbs; (simp [hh9]); done) | skip
  refine Wsem.seq ttok mixed ?_
  by_cases he0 : e = 0
  · by_cases hf0 : f = 0
    · obtain ⟨hg0, hh0⟩ := A1' he0 hf0 hg9 hh9
      refine ⟨fun hbs => ?_, fun hbs => ?_⟩ <;> first | (exfalso; revert hbs; (simp [he0]); done) | skip
      refine ⟨fun hbs => ?_, fun hbs => ?_⟩ <;> first | (exfalso; revert hbs; (simp [hg0]); done) | skip
      refine ⟨fun hbs => ?_, fun hbs => ?_⟩ <;> first | (exfalso; revert hbs; (simp [he0, hf0, hg0, hh0]); done) | skip
      refine Wsem.seq ttok mixed ?_
      refine ⟨fun hbs => ?_, fun hbs => ?_⟩ <;> first | (exfalso; revert hbs; (simp [he0]); done) | skip
      refine ⟨fun hbs => ?_, fun hbs => ?_⟩ <;> first | (exfalso; revert hbs; (simp [hf0]); done) | skip
      refine Wsem.cut _ ?_ (fin ⟨hg0, hh0, he0, hf0⟩)
      exact ⟨⟨rfl, rfl, rfl, trivial⟩, trivial, rfl⟩
    · have hgh : ¬ (g = 0 ∧ h = 0) := fun q => hf0 (A2' q.1 q.2 he9 hf9).2
      refine ⟨fun hbs => ?_, fun hbs => ?_⟩ <;> first | (exfalso; revert hbs; (simp [he0]); done) | skip
      by_cases hg0 : g = 0
      · have hh0 : h ≠ 0 := fun x => hgh ⟨hg0, x⟩
        refine ⟨fun hbs => ?_, fun hbs => ?_⟩ <;> first | (exfalso; revert hbs; (simp [hg0]); done) | skip
        refine ⟨fun hbs => ?_, fun hbs => ?_⟩ <;> first | (exfalso; revert hbs; (simp [he0, hg0, hf0, hh0]); done) | skip
        refine Wsem.seq ttok mixed ?_
        refine ⟨fun hbs => ?_, fun hbs => ?_⟩ <;> first | (exfalso; revert hbs; (simp [he0]); done) | skip
        refine ⟨fun hbs => ?_, fun hbs => ?_⟩ <;> first | (exfalso; revert hbs; (simp [hf0]); done) | skip
        refine .inl (Exists.intro _ (And.intro lives_ok ?_))
        exact rfl
      · refine ⟨fun hbs => ?_, fun hbs => ?_⟩ <;> first | (exfalso; revert hbs; (simp [hg0]); done) | skip
        refine ⟨fun hbs => ?_, fun hbs => ?_⟩ <;> first | (exfalso; revert hbs; (simp [he0, hg0, hf0]); done) | skip
        refine Wsem.seq ttok mixed ?_
        refine ⟨fun hbs => ?_, fun hbs => ?_⟩ <;> first | (exfalso; revert hbs; (simp [he0]); done) | skip
        refine ⟨fun hbs => ?_, fun hbs => ?_⟩ <;> first | (exfalso; revert hbs; (simp [hf0]); done) | skip
        refine .inl (Exists.intro _ (And.intro lives_ok ?_))
        exact rfl
  · have hgh : ¬ (g = 0 ∧ h = 0) := fun q => he0 (A2' q.1 q.2 he9 hf9).1
    refine ⟨fun hbs => ?_, fun hbs => ?_⟩ <;> first | (exfalso; revert hbs; (simp [he0]); done) | skip
    by_cases hg0 : g = 0
    · have hh0 : h ≠ 0 := fun x => hgh ⟨hg0, x⟩
      refine ⟨fun hbs => ?_, fun hbs => ?_⟩ <;> first | (exfalso; revert hbs; (simp [hg0]); done) | skip
      refine ⟨fun hbs => ?_, fun hbs => ?_⟩ <;> first | (exfalso; revert hbs; (simp [he0, hg0, hh0]); done) | skip
      refine Wsem.seq ttok mixed ?_
      refine ⟨fun hbs => ?_, fun hbs => ?_⟩ <;> first | (exfalso; revert hbs; (simp [he0]); done) | skip
      refine .inl (Exists.intro _ (And.intro lives_ok ?_))
      exact rfl
    · refine ⟨fun hbs => ?_, fun hbs => ?_⟩ <;> first | (exfalso; revert hbs; (simp [hg0]); done) | skip
      refine ⟨fun hbs => ?_, fun hbs => ?_⟩ <;> first | (exfalso; revert hbs; (simp [he0, hg0]); done) | skip
      refine Wsem.seq ttok mixed ?_
      refine ⟨fun hbs => ?_, fun hbs => ?_⟩ <;> first | (exfalso; revert hbs; (simp [he0]); done) | skip
      refine .inl (Exists.intro _ (And.intro lives_ok ?_))
      exact rfl
end Go.Proofs.YtigifkjcghkiiaaDoor
