/- The reference's 'within' and 'New'. No condition. -/
import Derived.Test.YtefdahofpjmnfaaL13
import Derived.Test.YtefdahofpjmnfaaV2
set_option linter.unusedSimpArgs false
set_option linter.unusedVariables false
namespace Go.Proofs.Ytefdahofpjmnfaa
open Go Fp
set_option maxRecDepth 10000
set_option maxHeartbeats 16000000

theorem within20_ok {n : Nat} {l : List Rw} {r : Rw} {K : Kn} {p : Pt} (hp : r.ps[0]? = some p) (hf : p.f = 1 ∨ p.f = 2 ∨ p.f = 3 ∧ p.k = [] ∨ p.f = 4) (hkk : p.k.length ≤ 2) (hm : K.many ≤ 2) (hb : r.ps.length < 10000) (hlo : r.lost.length < 10000)
    (hl : ∀ r ∈ l, colOk 0 r) (hll : l.length < 10000)
    (hN : ∀ x, part K 0 .empty r = some x → ACall Try.prog n_fugueref20_New [.sl (wTab.map eD), .sl (eRrs (parts K 0 .empty l)), eRr x] (.sb (fresh n (parts K 0 .empty l) x))) :
    ACall Try.prog n_fugueref20_within [.sl (wTab.map eD), .sl (eRrs l), eRr r, .lit (.int .i64 K.form), .lit (.string K.nam), .lit (.int .i64 K.num)] (.sb (withinP n l r K)) := by
  have hap := apart_ok K r 0 .empty hp hf hkk hm hb hlo
  have hA := Apart_ok K l 0 .empty hl hm hll
  unfold withinP
  refine acall_of_wc ttok mixed Try.func59 rfl (by rfl) (Nat.le_of_ble_eq_true rfl) (by kernel_rfl) ?_
  refine .inl ⟨_, hap, ?_⟩
  cases hx : part K 0 .empty r with
  | none =>
    refine ⟨fun hbs => ?_, fun hbs => ?_⟩ <;> first | (exfalso; revert hbs; simp [Kn.form]; done) | skip
    exact rfl
  | some x =>
    have hN' := hN x hx
    refine ⟨fun hbs => ?_, fun hbs => ?_⟩ <;> first | (exfalso; revert hbs; simp [Kn.form]; done) | skip
    refine .inl ⟨_, hA, ?_⟩
    refine .inl ⟨_, hN', ?_⟩
    exact rfl
end Go.Proofs.Ytefdahofpjmnfaa
