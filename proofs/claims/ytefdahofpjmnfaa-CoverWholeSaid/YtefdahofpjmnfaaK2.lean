/- Which ones are never come to is the document's: the statement's function is true. No condition but that numbers are integers of 64 bits. -/
import Derived.Test.YtefdahofpjmnfaaL29
import Derived.Test.YtefdahofpjmnfaaK1
set_option linter.unusedSimpArgs false
set_option linter.unusedVariables false
namespace Go.Proofs.Ytefdahofpjmnfaa
open Go Fp
set_option maxRecDepth 10000
set_option maxHeartbeats 16000000

theorem uslOf_le (l : List Pt) : (uslOf l).length ≤ l.length := usl_le _ _

theorem coverUseless_ok {l : List Int} (hl : l.length < 9223372036854775808) (hr : ∀ x ∈ l, InR x) : ACall Try.prog n_fuguelaw20_CoverUseless [.sl (eIs l)] (.sb true) := by
  obtain ⟨ps, t, hP, ht, hlen, hps⟩ := pats_ok hr hl
  have hok : PatsOk t ps := ⟨ht, by omega, hps⟩
  have h1 := Useless_ok hok
  have h2 := Useless20_ok hok
  have hu := uslOf_le ps
  have hsame := SameInts_ok (uslOf ps) (by omega)
  refine acall_of_wcx ttok mixed Try.func4 rfl (by rfl) (Nat.le_of_ble_eq_true rfl) (by kernel_rfl) ?_
  refine .inl ⟨_, hP, ?_⟩
  refine .inl ⟨_, program_ok, .inl ⟨_, new_ok, .inl ⟨_, h1, ?_⟩⟩⟩
  refine .inl ⟨_, datas_ok, .inl ⟨_, h2, ?_⟩⟩
  refine .inl ⟨_, hsame, ?_⟩
  refine ⟨fun hbs => ?_, fun hbs => ?_⟩ <;> first | (exfalso; revert hbs; decide) | skip
  refine .inl ⟨_, lives_ok, ?_⟩
  exact rfl
end Go.Proofs.Ytefdahofpjmnfaa
