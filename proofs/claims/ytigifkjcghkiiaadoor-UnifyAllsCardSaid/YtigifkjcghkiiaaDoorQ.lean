/- The document's Known, walked. -/
import Derived.Test.YtigifkjcghkiiaaDoorP
set_option linter.unusedSimpArgs false
set_option linter.unusedVariables false
namespace Go.Proofs.YtigifkjcghkiiaaDoor
open Go Fp
set_option maxRecDepth 10000
set_option maxHeartbeats 16000000
set_option linter.unusedVariables false
set_option linter.unusedSimpArgs false

theorem RKnown_ok {K : Kn} (hnd : (dom K).Nodup) (hp : ∀ n ∈ dom K, 0 ≤ n) (hlen : K.length < 1000000) : ACall Tryd.prog n_fugueref09_Known [eS K] (.sl (eIs (kn K))) := by
  obtain ⟨s, hs⟩ : ∃ s, s = kn K := ⟨_, rfl⟩
  obtain ⟨D, hD⟩ : ∃ D, D = dom K := ⟨_, rfl⟩
  have hm : ∀ x, x ∈ s ↔ x ∈ D := fun x => by rw [hs, hD]; exact kn_mem
  have hss : s.Pairwise (· < ·) := by rw [hs]; exact kn_lt hnd
  have hsl : s.length = D.length := by rw [hs, hD]; exact kn_length K
  have hDl : D.length = K.length := by rw [hD]; simp [dom]
  have hel : (eIs (dom K)).length = D.length := by rw [hD]; simp [eIs]
  have hgd : ∀ i (h : i < D.length), (eIs (dom K))[i]? = some (.lit (.int .i64 D[i])) := fun i h => by simp only [hD] at h ⊢; exact getI h
  rw [← hD] at hp
  rw [← hs]
  refine acall_of_wcx ttok mixed Tryd.func35 rfl (by rfl) (Nat.le_of_ble_eq_true rfl) (by kernel_rfl) ?_
  refine ⟨{j : Nat // j ≤ s.length}, fun j => { vs := [(1, .box 0 (eS K)), (3, .v (.sl (eIs (s.take j.1)))), (4, .v (.lit (.int .i64 (j.1 : Nat))))], ow := [(3, 0, 2)] },
    fun j => s.length - j.1, ⟨0, Nat.zero_le _⟩, ⟨⟨rfl, rfl, rfl, trivial⟩, ⟨trivial, trivial⟩, rfl⟩, ?_⟩
  rintro ⟨j, hj⟩
  have htl : (eIs (s.take j)).length = j := by simp [eIs]; omega
  refine ⟨fun h => ?_, fun h => ?_⟩
  rotate_left
  · have h : j = s.length := by simp [htl, hel] at h; omega
    subst h
    simp only [List.take_length]
    exact rfl
  have h : j < s.length := by simp [htl, hel] at h; omega
  refine ⟨{p : Nat × Int // p.1 ≤ D.length ∧ Best D s j p.1 p.2}, fun p => { vs := [(1, .box 0 (eS K)), (3, .v (.sl (eIs (s.take j)))), (4, .v (.lit (.int .i64 (j : Nat)))), (5, .v (.lit (.int .i64 p.1.2))), (6, .v (.lit (.int .i64 (p.1.1 : Nat))))], ow := [(3, 0, 2)] },
    fun p => D.length - p.1.1, ⟨(0, -1), Nat.zero_le _, .inl ⟨rfl, fun k _ hk => by omega⟩⟩, ⟨⟨rfl, rfl, rfl, rfl, rfl, trivial⟩, ⟨rfl, trivial⟩, rfl⟩, ?_⟩
  rintro ⟨⟨i, b⟩, hi, hB⟩
  simp only at hi hB
  refine ⟨fun h2 => ?_, fun h2 => ?_⟩
  rotate_left
  · have h2 : i = D.length := by simp [hel] at h2; omega
    subst h2
    obtain ⟨hb, hb0⟩ := best_end hm hss h hB
    refine ⟨fun hbs => ?_, fun hbs => ?_⟩ <;> first | (exfalso; revert hbs; (simp; omega); done) | skip
    refine ⟨by simp [eIs]; omega, uniI _, uniI [b], ?_⟩
    have htk : eIs (s.take j) ++ [.lit (.int .i64 b)] = eIs (s.take (j + 1)) := by
      rw [hb, List.take_succ_eq_append_getElem h]; unfold eIs; rw [List.map_append]; rfl
    refine ⟨⟨j + 1, h⟩, (show s.length - (j + 1) < s.length - j by omega), ⟨rfl, congrArg (fun l => SV.v (AV.sl l)) htk, svc (wrap_succ (k := j) (by omega)), trivial⟩, ⟨rfl, trivial⟩, rfl⟩
  · have h2 : i < D.length := by simp [hel] at h2; omega
    obtain ⟨g1, g2⟩ := best_step h2 hp hB
    have hw := wrap_succ (k := i) (by omega)
    have hgi := hgd i h2
    by_cases hj0 : j = 0
    · have hc : cand s j D[i] := .inl hj0
      have hz : (((eIs (s.take j)).length : Nat) : Int) = 0 := by rw [htl, hj0]; rfl
      refine ⟨fun hbs => ?_, fun hbs => ?_⟩ <;> first | (exfalso; revert hbs; (intro h; exact of_decide_eq_false h hz); done) | skip
      refine ⟨by kernel_rfl, ?_⟩
      by_cases hb : b < 0
      · refine ⟨fun hbs => ?_, fun hbs => ?_⟩ <;> first | (exfalso; revert hbs; (intro h; exact of_decide_eq_false h hb); done) | skip
        refine ⟨_, by omega, hgi, rfl, ?_⟩
        refine ⟨⟨(i + 1, D[i]), h2, g1 hc (.inl hb)⟩, (show D.length - (i + 1) < D.length - i by omega), ⟨rfl, rfl, rfl, rfl, svc hw, trivial⟩, ⟨rfl, trivial⟩, rfl⟩
      · refine ⟨fun hbs => ?_, fun hbs => ?_⟩ <;> first | (exfalso; revert hbs; (intro h; exact hb (of_decide_eq_true h)); done) | skip
        refine ⟨_, by omega, hgi, rfl, ?_⟩
        by_cases hd : D[i] < b
        · refine ⟨fun hbs => ?_, fun hbs => ?_⟩ <;> first | (exfalso; revert hbs; (intro h; exact of_decide_eq_false h hd); done) | skip
          refine ⟨_, by omega, hgi, rfl, ?_⟩
          refine ⟨⟨(i + 1, D[i]), h2, g1 hc (.inr hd)⟩, (show D.length - (i + 1) < D.length - i by omega), ⟨rfl, rfl, rfl, rfl, svc hw, trivial⟩, ⟨rfl, trivial⟩, rfl⟩
        · refine ⟨fun hbs => ?_, fun hbs => ?_⟩ <;> first | (exfalso; revert hbs; (intro h; exact hd (of_decide_eq_true h)); done) | skip
          refine ⟨⟨(i + 1, b), h2, g2 (.inr fun h => h.elim hb hd)⟩, (show D.length - (i + 1) < D.length - i by omega), ⟨rfl, rfl, rfl, rfl, svc hw, trivial⟩, ⟨rfl, trivial⟩, rfl⟩
    · have hz : (((eIs (s.take j)).length : Nat) : Int) ≠ 0 := by rw [htl]; omega
      refine ⟨fun hbs => ?_, fun hbs => ?_⟩ <;> first | (exfalso; revert hbs; (intro h; exact hz (of_decide_eq_true h)); done) | skip
      refine ⟨_, by omega, hgi, rfl, ?_⟩
      have hw1 : IntKind.i64.wrap ((((eIs (s.take j)).length : Nat) : Int) - 1) = ((j - 1 : Nat) : Int) := by
        rw [htl, show ((j : Nat) : Int) - 1 = ((j - 1 : Nat) : Int) by omega]; exact wrap_nat (by omega)
      have hmx : (if (0 : Int) > IntKind.i64.wrap ((((eIs (s.take j)).length : Nat) : Int) - 1) then (0 : Int) else IntKind.i64.wrap ((((eIs (s.take j)).length : Nat) : Int) - 1)) = ((j - 1 : Nat) : Int) := by
        rw [hw1, if_neg (by omega)]
      have hjt : j - 1 < (s.take j).length := by simp; omega
      refine ⟨.lit (.int .i64 (s.take j)[j - 1]), ?_, ?_, rfl, ?_⟩
      · show (0 : Int) ≤ (if (0 : Int) > IntKind.i64.wrap ((((eIs (s.take j)).length : Nat) : Int) - 1) then (0 : Int) else IntKind.i64.wrap ((((eIs (s.take j)).length : Nat) : Int) - 1))
        rw [hmx]; omega
      · show (eIs (s.take j))[(if (0 : Int) > IntKind.i64.wrap ((((eIs (s.take j)).length : Nat) : Int) - 1) then (0 : Int) else IntKind.i64.wrap ((((eIs (s.take j)).length : Nat) : Int) - 1)).toNat]? = _
        rw [hmx, Int.toNat_natCast]; exact getI hjt
      refine ⟨by kernel_rfl, ?_⟩
      have hge : s.getD (j - 1) 0 = (s.take j)[j - 1] := by
        rw [List.getD_eq_getElem?_getD, List.getElem?_eq_getElem (by omega), List.getElem_take]; rfl
      by_cases hcd : (s.take j)[j - 1] < D[i]
      · have hc : cand s j D[i] := .inr (by rw [hge]; exact hcd)
        refine ⟨fun hbs => ?_, fun hbs => ?_⟩ <;> first | (exfalso; revert hbs; (intro h; exact of_decide_eq_false h hcd); done) | skip
        by_cases hb : b < 0
        · refine ⟨fun hbs => ?_, fun hbs => ?_⟩ <;> first | (exfalso; revert hbs; (intro h; exact of_decide_eq_false h hb); done) | skip
          refine ⟨_, by omega, hgi, rfl, ?_⟩
          refine ⟨⟨(i + 1, D[i]), h2, g1 hc (.inl hb)⟩, (show D.length - (i + 1) < D.length - i by omega), ⟨rfl, rfl, rfl, rfl, svc hw, trivial⟩, ⟨rfl, trivial⟩, rfl⟩
        · refine ⟨fun hbs => ?_, fun hbs => ?_⟩ <;> first | (exfalso; revert hbs; (intro h; exact hb (of_decide_eq_true h)); done) | skip
          refine ⟨_, by omega, hgi, rfl, ?_⟩
          by_cases hd : D[i] < b
          · refine ⟨fun hbs => ?_, fun hbs => ?_⟩ <;> first | (exfalso; revert hbs; (intro h; exact of_decide_eq_false h hd); done) | skip
            refine ⟨_, by omega, hgi, rfl, ?_⟩
            refine ⟨⟨(i + 1, D[i]), h2, g1 hc (.inr hd)⟩, (show D.length - (i + 1) < D.length - i by omega), ⟨rfl, rfl, rfl, rfl, svc hw, trivial⟩, ⟨rfl, trivial⟩, rfl⟩
          · refine ⟨fun hbs => ?_, fun hbs => ?_⟩ <;> first | (exfalso; revert hbs; (intro h; exact hd (of_decide_eq_true h)); done) | skip
            refine ⟨⟨(i + 1, b), h2, g2 (.inr fun h => h.elim hb hd)⟩, (show D.length - (i + 1) < D.length - i by omega), ⟨rfl, rfl, rfl, rfl, svc hw, trivial⟩, ⟨rfl, trivial⟩, rfl⟩
      · have hc : ¬ cand s j D[i] := fun h => h.elim hj0 (by rw [hge]; exact hcd)
        refine ⟨fun hbs => ?_, fun hbs => ?_⟩ <;> first | (exfalso; revert hbs; (intro h; exact hcd (of_decide_eq_true h)); done) | skip
        refine ⟨⟨(i + 1, b), h2, g2 (.inl hc)⟩, (show D.length - (i + 1) < D.length - i by omega), ⟨rfl, rfl, rfl, rfl, svc hw, trivial⟩, ⟨rfl, trivial⟩, rfl⟩
end Go.Proofs.YtigifkjcghkiiaaDoor
