/- A part of the proof of a given statement: contracts of functions of the program, under no condition but those that each states. -/
import Derived.Test.YtocglbflmkadeaaDoorL27
set_option linter.unusedSimpArgs false
set_option linter.unusedVariables false
namespace Go.Proofs.YtocglbflmkadeaaDoor
open Go Fp
set_option maxRecDepth 100000
set_option maxHeartbeats 8000000

theorem typesSame_ok {l : List Int} (hl : l.length < 9223372036854775808) (hr : ∀ x ∈ l, InR x) {m : List Int} (hm : m.length < 9223372036854775808) (hmr : ∀ x ∈ m, InR x) {n k : Int} (hn : InR n) (hk : InR k) :
    ACall Tryd.prog n_fuguelaw04_TypesSame [.sl (eIs l), .sl (eIs m), .lit (.int .i64 n), .lit (.int .i64 k)] (.sb true) := by
  obtain ⟨a, a1, ag, az⟩ := made_ok hl hr
  obtain ⟨b, b1, bg, bz⟩ := made_ok hm hmr
  obtain ⟨s, s4, s1⟩ := name_ok hn
  obtain ⟨r, r4, r1⟩ := name_ok hk
  have fit : Fit 24 a [(s, .var r)] := fit_good ag az (by simp) (by intro p hp; simp at hp; subst hp; exact ⟨s4, r4, by simp [Tp.sz]⟩)
  obtain ⟨e, he⟩ : ∃ e, e = sub a [(s, .var r)] := ⟨_, rfl⟩
  have e1 := rsubst_ok a.sz a (Nat.le_refl _) 24 _ fit
  unfold rsubstSays at e1
  rw [← he] at e1
  have da := dp_sz a
  have le : LowT 217 e := he ▸ (sub_low a 24 _ fit).mono (by omega)
  have ne : Nm e := he ▸ sub_nm a _ (good_nm ag) (by intro p hp; simp at hp; subst hp; trivial)
  have ze : e.sz ≤ a.sz * 1 := he ▸ sub_sz (by decide) a _ (by intro p hp; simp at hp; subst hp; simp [Tp.sz])
  have la : LowT 217 a := (good_low ag).mono (by omega)
  have lb : LowT 217 b := (good_low bg).mono (by omega)
  have ls : Low 217 s := (small4_low s s4).mono (by omega)
  have lr : Low 217 r := (small4_low r r4).mono (by omega)
  obtain ⟨q, hq⟩ : ∃ q, q = [a, b, .all s a, .all r a, .all r e] := ⟨_, rfl⟩
  have facts : ∀ t ∈ q, LowT 217 t ∧ Nm t ∧ t.sz ≤ 1000000 := by
    rw [hq]
    intro t ht
    simp at ht
    rcases ht with rfl | rfl | rfl | rfl | rfl
    · exact ⟨la, good_nm ag, by omega⟩
    · exact ⟨lb, good_nm bg, by omega⟩
    · exact ⟨⟨ls, la⟩, show Nm a from good_nm ag, by simp only [Tp.sz]; omega⟩
    · exact ⟨⟨lr, la⟩, show Nm a from good_nm ag, by simp only [Tp.sz]; omega⟩
    · exact ⟨⟨lr, le⟩, ne, by simp only [Tp.sz]; omega⟩
  have hlen : q.length = 5 := by rw [hq]; rfl
  refine acall_of_wc ttok mixed Tryd.func6 rfl (by rfl) (Nat.le_of_ble_eq_true rfl) (by kernel_rfl) ?_
  refine .inl ⟨_, a1, ?_⟩
  refine .inl ⟨_, b1, ?_⟩
  refine .inl ⟨_, s1, ?_⟩
  refine .inl ⟨_, all_mk s a, ?_⟩
  refine .inl ⟨_, r1, ?_⟩
  refine .inl ⟨_, all_mk r a, ?_⟩
  refine .inl ⟨_, r1, ?_⟩
  refine .inl ⟨_, s1, ?_⟩
  refine .inl ⟨_, r1, ?_⟩
  refine .inl ⟨_, e1, ?_⟩
  refine .inl ⟨_, all_mk r e, ?_⟩
  refine ⟨{i : Nat // i ≤ 5}, fun i => { vs := [(14, .v (.sl (eTys q))), (15, .v (.lit (.int .i64 (i.1 : Nat))))], ow := [] },
    fun i => 5 - i.1, ⟨0, Nat.zero_le _⟩, ⟨⟨by rw [hq]; rfl, rfl, trivial⟩, trivial, rfl⟩, ?_⟩
  rintro ⟨i, hi⟩
  refine ⟨fun h => ?_, fun h => ?_⟩
  · have h : i < 5 := by simp at h; omega
    refine ⟨{j : Nat // j ≤ 5}, fun j => { vs := [(14, .v (.sl (eTys q))), (15, .v (.lit (.int .i64 (i : Nat)))), (16, .v (.lit (.int .i64 (j.1 : Nat))))], ow := [] },
      fun j => 5 - j.1, ⟨0, Nat.zero_le _⟩, ⟨⟨rfl, rfl, rfl, trivial⟩, trivial, rfl⟩, ?_⟩
    rintro ⟨j, hj⟩
    refine ⟨fun h2 => ?_, fun h2 => ?_⟩
    · have h2 : j < 5 := by simp at h2; omega
      obtain ⟨x1, x2, x3⟩ := facts _ (List.getElem_mem (l := q) (n := i) (by omega))
      obtain ⟨y1, y2, y3⟩ := facts _ (List.getElem_mem (l := q) (n := j) (by omega))
      have gi : (eTys q)[i]? = some (eTy q[i]) := getT (by omega)
      have gj : (eTys q)[j]? = some (eTy q[j]) := getT (by omega)
      have hs := sameT_ok q[i] q[j] (by omega)
      have hb : smb q[i] q[j] [] [] = decide (nl q[i] [] = nl q[j] []) := by
        have := nl_iff x1 y1 x2 y2
        cases hc : smb q[i] q[j] [] []
        · rw [decide_eq_false (fun e => by rw [this.1 e] at hc; cases hc)]
        · rw [decide_eq_true (this.2 hc)]
      rw [hb] at hs
      refine ⟨_, by omega, gi, rfl, ?_⟩
      refine ⟨_, by omega, gj, rfl, ?_⟩
      refine .inl ⟨_, hs, ?_⟩
      refine ⟨_, by omega, gi, rfl, ?_⟩
      refine ⟨_, by omega, gj, rfl, ?_⟩
      refine .inl ⟨_, rSame_ok (K := 217) (by decide) x1 y1 x2 y2 x3 y3, ?_⟩
      refine ⟨fun h => by simp at h, fun _ => ?_⟩
      refine ⟨⟨j + 1, h2⟩, (show 5 - (j + 1) < 5 - j by omega), ⟨rfl, rfl, ?_, trivial⟩, trivial, rfl⟩
      exact congrArg (fun n => SV.v (AV.lit (Value.int .i64 n))) (wrap_succ (k := j) (by omega))
    · refine ⟨⟨i + 1, h⟩, (show 5 - (i + 1) < 5 - i by omega), ⟨rfl, ?_, trivial⟩, trivial, rfl⟩
      exact congrArg (fun n => SV.v (AV.lit (Value.int .i64 n))) (wrap_succ (k := i) (by omega))
  · refine .inl ⟨_, lives_ok, ?_⟩
    exact rfl
end Go.Proofs.YtocglbflmkadeaaDoor
