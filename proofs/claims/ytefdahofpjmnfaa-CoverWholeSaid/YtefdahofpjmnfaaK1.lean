/- What is missing is the document's: the statement's function is true. No condition but that numbers are integers of 64 bits. -/
import Derived.Test.YtefdahofpjmnfaaL27
set_option linter.unusedSimpArgs false
set_option linter.unusedVariables false
namespace Go.Proofs.Ytefdahofpjmnfaa
open Go Fp
set_option maxRecDepth 10000
set_option maxHeartbeats 16000000

theorem misOr_cases (x : Option (List Pt)) (hx : ∀ m, x = some m → m.length = 1 ∧ szL m ≤ 300) : ∃ (p : Pt) (b : Bool), misOr x = .tup [ePt p, .sb b] ∧ p.sz ≤ 300 ∧ ((x = none ∧ b = false) ∨ (x = some [p] ∧ b = true)) := by
  match x, hx with
  | none, _ => exact ⟨zeroP, false, rfl, by decide, .inl ⟨rfl, rfl⟩⟩
  | some [p], hx =>
    have := (hx _ rfl).2
    simp only [szL] at this
    exact ⟨p, true, rfl, by omega, .inr ⟨rfl, rfl⟩⟩
  | some [], hx => exact absurd (hx _ rfl).1 (by simp)
  | some (p :: q :: m), hx => exact absurd (hx _ rfl).1 (by simp)
theorem missOf_facts (l : List Pt) : ∀ m, missOf l = some m → m.length = 1 ∧ szL m ≤ 300 := fun m h => ⟨miss_len _ _ _ _ h, miss_sz _ _ _ _ h⟩

theorem coverMissing_ok {l : List Int} (hl : l.length < 9223372036854775808) (hr : ∀ x ∈ l, InR x) : ACall Try.prog n_fuguelaw20_CoverMissing [.sl (eIs l)] (.sb true) := by
  obtain ⟨ps, t, hP, ht, hlen, hps⟩ := pats_ok hr hl
  have hok : PatsOk t ps := ⟨ht, by omega, hps⟩
  have h1 := Missing_ok hok
  have h2 := Missing20_ok hok
  obtain ⟨p, b, he, hsz, _⟩ := misOr_cases (missOf ps) (missOf_facts ps)
  rw [he] at h1 h2
  have hsame := SamePat_ok 300 p hsz (by omega)
  refine acall_of_wcx ttok mixed Try.func3 rfl (by rfl) (Nat.le_of_ble_eq_true rfl) (by kernel_rfl) ?_
  refine .inl ⟨_, hP, ?_⟩
  refine .inl ⟨_, program_ok, .inl ⟨_, new_ok, .inl ⟨_, h1, ?_⟩⟩⟩
  refine .inl ⟨_, datas_ok, .inl ⟨_, h2, ?_⟩⟩
  refine .inl ⟨_, hsame, ?_⟩
  cases b
  all_goals
    refine ⟨fun hbs => ?_, fun hbs => ?_⟩ <;> first | (exfalso; revert hbs; decide) | skip
    refine ⟨fun hbs => ?_, fun hbs => ?_⟩ <;> first | (exfalso; revert hbs; decide) | skip
    refine .inl ⟨_, lives_ok, ?_⟩
    exact rfl
end Go.Proofs.Ytefdahofpjmnfaa
