/- The document's Unify, walked: one step of it, whatever its arguments are with all that is known. -/
import Derived.Test.YtigifkjcghkiiaaDoorN
set_option linter.unusedSimpArgs false
set_option linter.unusedVariables false
namespace Go.Proofs.YtigifkjcghkiiaaDoor
open Go Fp
set_option maxRecDepth 10000
set_option maxHeartbeats 16000000
set_option linter.unusedVariables false
set_option linter.unusedSimpArgs false

abbrev FullAt (K : Kn) (a x : Tp) : Prop := ACall Tryd.prog n_fugueref09_Full [eS K, eTy a] (eTy x)
abbrev RU (K : Kn) (a b : Tp) (r : AV) : Prop := ACall Tryd.prog n_fugueref09_Unify [eS K, eTy a, eTy b] r

theorem RU_same {K : Kn} {a b : Tp} {n : Int} (ha : FullAt K a (.mt n)) (hb : FullAt K b (.mt n)) : RU K a b (eR K 0) := by
  refine acall_of_wcx ttok mixed Tryd.func29 rfl (by rfl) (Nat.le_of_ble_eq_true rfl) (by kernel_rfl) ?_
  refine .inl ⟨_, ha, ?_⟩
  refine .inl ⟨_, hb, ?_⟩
  refine ⟨fun hbs => ?_, fun hbs => ?_⟩ <;> first | (exfalso; revert hbs; (simp [Tp.form]); done) | skip
  refine ⟨fun hbs => ?_, fun hbs => ?_⟩ <;> first | (exfalso; revert hbs; (simp [Tp.form]); done) | skip
  refine ⟨fun hbs => ?_, fun hbs => ?_⟩ <;> first | (exfalso; revert hbs; (simp [Tp.num]); done) | skip
  exact rfl
theorem RU_lt {K K' : Kn} {a b : Tp} {n m e : Int} (ha : FullAt K a (.mt n)) (hb : FullAt K b (.mt m)) (hl : n < m) (hk : ACall Tryd.prog n_fugueref09_know [eS K, .lit (.int .i64 m), eTy (.mt n)] (eR K' e)) : RU K a b (eR K' e) := by
  have hne : n ≠ m := by omega
  refine acall_of_wcx ttok mixed Tryd.func29 rfl (by rfl) (Nat.le_of_ble_eq_true rfl) (by kernel_rfl) ?_
  refine .inl ⟨_, ha, ?_⟩
  refine .inl ⟨_, hb, ?_⟩
  refine ⟨fun hbs => ?_, fun hbs => ?_⟩ <;> first | (exfalso; revert hbs; (simp [Tp.form]); done) | skip
  refine ⟨fun hbs => ?_, fun hbs => ?_⟩ <;> first | (exfalso; revert hbs; (simp [Tp.form]); done) | skip
  refine ⟨fun hbs => ?_, fun hbs => ?_⟩ <;> first | (exfalso; revert hbs; (simp [Tp.num, hne]); done) | skip
  refine ⟨fun hbs => ?_, fun hbs => ?_⟩ <;> first | (exfalso; revert hbs; (simp [Tp.form]); done) | skip
  refine ⟨fun hbs => ?_, fun hbs => ?_⟩ <;> first | (exfalso; revert hbs; (simp [Tp.form]); done) | skip
  refine ⟨fun hbs => ?_, fun hbs => ?_⟩ <;> first | (exfalso; revert hbs; (simp [Tp.num, hl]); done) | skip
  refine .inl ⟨_, hk, ?_⟩
  exact rfl
theorem RU_gt {K K' : Kn} {a b : Tp} {n m e : Int} (ha : FullAt K a (.mt n)) (hb : FullAt K b (.mt m)) (hl : m < n) (hk : ACall Tryd.prog n_fugueref09_know [eS K, .lit (.int .i64 n), eTy (.mt m)] (eR K' e)) : RU K a b (eR K' e) := by
  have hne : n ≠ m := by omega
  have hnl : ¬ n < m := by omega
  refine acall_of_wcx ttok mixed Tryd.func29 rfl (by rfl) (Nat.le_of_ble_eq_true rfl) (by kernel_rfl) ?_
  refine .inl ⟨_, ha, ?_⟩
  refine .inl ⟨_, hb, ?_⟩
  refine ⟨fun hbs => ?_, fun hbs => ?_⟩ <;> first | (exfalso; revert hbs; (simp [Tp.form]); done) | skip
  refine ⟨fun hbs => ?_, fun hbs => ?_⟩ <;> first | (exfalso; revert hbs; (simp [Tp.form]); done) | skip
  refine ⟨fun hbs => ?_, fun hbs => ?_⟩ <;> first | (exfalso; revert hbs; (simp [Tp.num, hne]); done) | skip
  refine ⟨fun hbs => ?_, fun hbs => ?_⟩ <;> first | (exfalso; revert hbs; (simp [Tp.form]); done) | skip
  refine ⟨fun hbs => ?_, fun hbs => ?_⟩ <;> first | (exfalso; revert hbs; (simp [Tp.form]); done) | skip
  refine ⟨fun hbs => ?_, fun hbs => ?_⟩ <;> first | (exfalso; revert hbs; (intro h; have h := of_decide_eq_true h; exact hnl h); done) | skip
  refine ⟨fun hbs => ?_, fun hbs => ?_⟩ <;> first | (exfalso; revert hbs; (simp [Tp.form]); done) | skip
  refine .inl ⟨_, hk, ?_⟩
  exact rfl
theorem RU_left {K K' : Kn} {a b y : Tp} {n e : Int} (ha : FullAt K a (.mt n)) (hb : FullAt K b y) (hy : y.form ≠ 1) (hk : ACall Tryd.prog n_fugueref09_know [eS K, .lit (.int .i64 n), eTy y] (eR K' e)) : RU K a b (eR K' e) := by
  refine acall_of_wcx ttok mixed Tryd.func29 rfl (by rfl) (Nat.le_of_ble_eq_true rfl) (by kernel_rfl) ?_
  refine .inl ⟨_, ha, ?_⟩
  refine .inl ⟨_, hb, ?_⟩
  refine ⟨fun hbs => ?_, fun hbs => ?_⟩ <;> first | (exfalso; revert hbs; (simp [Tp.form]); done) | skip
  refine ⟨fun hbs => ?_, fun hbs => ?_⟩ <;> first | (exfalso; revert hbs; (simp [hy]); done) | skip
  refine ⟨fun hbs => ?_, fun hbs => ?_⟩ <;> first | (exfalso; revert hbs; (simp [Tp.form]); done) | skip
  refine ⟨fun hbs => ?_, fun hbs => ?_⟩ <;> first | (exfalso; revert hbs; (simp [hy]); done) | skip
  refine ⟨fun hbs => ?_, fun hbs => ?_⟩ <;> first | (exfalso; revert hbs; (simp [Tp.form]); done) | skip
  refine .inl ⟨_, hk, ?_⟩
  exact rfl
theorem RU_right {K K' : Kn} {a b x : Tp} {n e : Int} (ha : FullAt K a x) (hb : FullAt K b (.mt n)) (hx : x.form ≠ 1) (hk : ACall Tryd.prog n_fugueref09_know [eS K, .lit (.int .i64 n), eTy x] (eR K' e)) : RU K a b (eR K' e) := by
  refine acall_of_wcx ttok mixed Tryd.func29 rfl (by rfl) (Nat.le_of_ble_eq_true rfl) (by kernel_rfl) ?_
  refine .inl ⟨_, ha, ?_⟩
  refine .inl ⟨_, hb, ?_⟩
  refine ⟨fun hbs => ?_, fun hbs => ?_⟩ <;> first | (exfalso; revert hbs; (simp [hx]); done) | skip
  refine ⟨fun hbs => ?_, fun hbs => ?_⟩ <;> first | (exfalso; revert hbs; (simp [hx]); done) | skip
  refine ⟨fun hbs => ?_, fun hbs => ?_⟩ <;> first | (exfalso; revert hbs; (simp [hx]); done) | skip
  refine ⟨fun hbs => ?_, fun hbs => ?_⟩ <;> first | (exfalso; revert hbs; (simp [Tp.form]); done) | skip
  refine .inl ⟨_, hk, ?_⟩
  exact rfl
theorem RU_apart {K : Kn} {a b x y : Tp} (ha : FullAt K a x) (hb : FullAt K b y) (hx : x.form ≠ 1) (hy : y.form ≠ 1) (hx5 : x.form ≠ 5) (hne : x.form ≠ y.form ∨ x.nam ≠ y.nam) : RU K a b (eR K 31) := by
  refine acall_of_wcx ttok mixed Tryd.func29 rfl (by rfl) (Nat.le_of_ble_eq_true rfl) (by kernel_rfl) ?_
  refine .inl ⟨_, ha, ?_⟩
  refine .inl ⟨_, hb, ?_⟩
  refine ⟨fun hbs => ?_, fun hbs => ?_⟩ <;> first | (exfalso; revert hbs; (simp [hx]); done) | skip
  refine ⟨fun hbs => ?_, fun hbs => ?_⟩ <;> first | (exfalso; revert hbs; (simp [hx]); done) | skip
  refine ⟨fun hbs => ?_, fun hbs => ?_⟩ <;> first | (exfalso; revert hbs; (simp [hx]); done) | skip
  refine ⟨fun hbs => ?_, fun hbs => ?_⟩ <;> first | (exfalso; revert hbs; (simp [hy]); done) | skip
  refine ⟨fun hbs => ?_, fun hbs => ?_⟩ <;> first | (exfalso; revert hbs; (simp [hx5]); done) | skip
  by_cases hf : x.form = y.form
  · have hn := hne.resolve_left (fun h => h hf)
    refine ⟨fun hbs => ?_, fun hbs => ?_⟩ <;> first | (exfalso; revert hbs; (simp [hf]); done) | skip
    refine ⟨fun hbs => ?_, fun hbs => ?_⟩ <;> first | (exfalso; revert hbs; (simp [hx5]); done) | skip
    refine ⟨fun hbs => ?_, fun hbs => ?_⟩ <;> first | (exfalso; revert hbs; (simp [hn]); done) | skip
    exact rfl
  · refine ⟨fun hbs => ?_, fun hbs => ?_⟩ <;> first | (exfalso; revert hbs; (simp [hf]); done) | skip
    exact rfl
theorem RU_leaf {K : Kn} {a b x : Tp} (ha : FullAt K a x) (hb : FullAt K b x) (hx : x.form ≠ 1) (hx5 : x.form ≠ 5) (hargs : x.args = []) : RU K a b (eR K 0) := by
  have hea : x.eArgs = [] := by rw [x.eArgs_eq, hargs]; rfl
  refine acall_of_wcx ttok mixed Tryd.func29 rfl (by rfl) (Nat.le_of_ble_eq_true rfl) (by kernel_rfl) ?_
  refine .inl ⟨_, ha, ?_⟩
  refine .inl ⟨_, hb, ?_⟩
  refine ⟨fun hbs => ?_, fun hbs => ?_⟩ <;> first | (exfalso; revert hbs; (simp [hx]); done) | skip
  refine ⟨fun hbs => ?_, fun hbs => ?_⟩ <;> first | (exfalso; revert hbs; (simp [hx]); done) | skip
  refine ⟨fun hbs => ?_, fun hbs => ?_⟩ <;> first | (exfalso; revert hbs; (simp [hx]); done) | skip
  refine ⟨fun hbs => ?_, fun hbs => ?_⟩ <;> first | (exfalso; revert hbs; (simp [hx]); done) | skip
  refine ⟨fun hbs => ?_, fun hbs => ?_⟩ <;> first | (exfalso; revert hbs; (simp [hx5]); done) | skip
  refine ⟨fun hbs => ?_, fun hbs => ?_⟩ <;> first | (exfalso; revert hbs; (simp); done) | skip
  refine ⟨fun hbs => ?_, fun hbs => ?_⟩ <;> first | (exfalso; revert hbs; (simp [hx5]); done) | skip
  refine ⟨fun hbs => ?_, fun hbs => ?_⟩ <;> first | (exfalso; revert hbs; (simp); done) | skip
  refine ⟨Unit, fun _ => { vs := [(4, .box 0 (eTy x)), (6, .box 0 (eS [])), (8, .box 0 (eS K)), (9, .v (.lit (.int .i64 0)))] },
    fun _ => 0, (), ⟨⟨rfl, rfl, rfl, rfl, trivial⟩, trivial, rfl⟩, ?_⟩
  rintro ⟨⟩
  refine ⟨fun hbs => ?_, fun hbs => ?_⟩ <;> first | (exfalso; revert hbs; (simp [hea]); done) | skip
  exact rfl
end Go.Proofs.YtigifkjcghkiiaaDoor

namespace Go.Proofs.YtigifkjcghkiiaaDoor
open Go Fp
set_option maxRecDepth 10000
set_option maxHeartbeats 16000000
set_option linter.unusedVariables false
set_option linter.unusedSimpArgs false

theorem RU_app1 {K : Kn} {a b x1 x2 y1 y2 : Tp} {e : Int} (ha : FullAt K a (.app x1 x2)) (hb : FullAt K b (.app y1 y2)) (h1 : RU K x1 y1 (eR K e)) (he : e ≠ 0) : RU K a b (eR K e) := by
  refine acall_of_wcx ttok mixed Tryd.func29 rfl (by rfl) (Nat.le_of_ble_eq_true rfl) (by kernel_rfl) ?_
  refine .inl ⟨_, ha, ?_⟩
  refine .inl ⟨_, hb, ?_⟩
  refine ⟨fun hbs => ?_, fun hbs => ?_⟩ <;> first | (exfalso; revert hbs; (simp [Tp.form]); done) | skip
  refine ⟨fun hbs => ?_, fun hbs => ?_⟩ <;> first | (exfalso; revert hbs; (simp [Tp.form]); done) | skip
  refine ⟨fun hbs => ?_, fun hbs => ?_⟩ <;> first | (exfalso; revert hbs; (simp [Tp.form]); done) | skip
  refine ⟨fun hbs => ?_, fun hbs => ?_⟩ <;> first | (exfalso; revert hbs; (simp [Tp.form]); done) | skip
  refine ⟨fun hbs => ?_, fun hbs => ?_⟩ <;> first | (exfalso; revert hbs; (simp [Tp.form]); done) | skip
  refine ⟨fun hbs => ?_, fun hbs => ?_⟩ <;> first | (exfalso; revert hbs; (simp [Tp.form]); done) | skip
  refine ⟨fun hbs => ?_, fun hbs => ?_⟩ <;> first | (exfalso; revert hbs; (simp [Tp.form]); done) | skip
  refine ⟨fun hbs => ?_, fun hbs => ?_⟩ <;> first | (exfalso; revert hbs; (simp [Tp.nam]); done) | skip
  refine ⟨Unit, fun _ => { vs := [(3, .box 0 (eS K)), (4, .box 0 (eTy (.app x1 x2))), (5, .box 0 (eTy (.app y1 y2))), (6, .box 0 (eS [])), (8, .box 0 (eS K)), (9, .v (.lit (.int .i64 0)))] },
    fun _ => 0, (), ⟨⟨rfl, rfl, rfl, rfl, rfl, rfl, trivial⟩, trivial, rfl⟩, ?_⟩
  rintro ⟨⟩
  refine ⟨fun hbs => ?_, fun hbs => ?_⟩ <;> first | (exfalso; revert hbs; (simp [Tp.eArgs]); done) | skip
  refine ⟨eTy x1, by simp, rfl, rfl, ?_⟩
  refine ⟨eTy y1, by simp, rfl, rfl, ?_⟩
  refine .inl ⟨_, h1, ?_⟩
  refine ⟨by kernel_rfl, ?_⟩
  refine ⟨fun hbs => ?_, fun hbs => ?_⟩ <;> first | (exfalso; revert hbs; (simp [he]); done) | skip
  exact rfl
theorem RU_app2 {K K1 K2 : Kn} {a b x1 x2 y1 y2 : Tp} {e : Int} (ha : FullAt K a (.app x1 x2)) (hb : FullAt K b (.app y1 y2)) (h1 : RU K x1 y1 (eR K1 0)) (h2 : RU K1 x2 y2 (eR K2 e)) : RU K a b (eR (if e = 0 then K2 else K) e) := by
  refine acall_of_wcx ttok mixed Tryd.func29 rfl (by rfl) (Nat.le_of_ble_eq_true rfl) (by kernel_rfl) ?_
  refine .inl ⟨_, ha, ?_⟩
  refine .inl ⟨_, hb, ?_⟩
  refine ⟨fun hbs => ?_, fun hbs => ?_⟩ <;> first | (exfalso; revert hbs; (simp [Tp.form]); done) | skip
  refine ⟨fun hbs => ?_, fun hbs => ?_⟩ <;> first | (exfalso; revert hbs; (simp [Tp.form]); done) | skip
  refine ⟨fun hbs => ?_, fun hbs => ?_⟩ <;> first | (exfalso; revert hbs; (simp [Tp.form]); done) | skip
  refine ⟨fun hbs => ?_, fun hbs => ?_⟩ <;> first | (exfalso; revert hbs; (simp [Tp.form]); done) | skip
  refine ⟨fun hbs => ?_, fun hbs => ?_⟩ <;> first | (exfalso; revert hbs; (simp [Tp.form]); done) | skip
  refine ⟨fun hbs => ?_, fun hbs => ?_⟩ <;> first | (exfalso; revert hbs; (simp [Tp.form]); done) | skip
  refine ⟨fun hbs => ?_, fun hbs => ?_⟩ <;> first | (exfalso; revert hbs; (simp [Tp.form]); done) | skip
  refine ⟨fun hbs => ?_, fun hbs => ?_⟩ <;> first | (exfalso; revert hbs; (simp [Tp.nam]); done) | skip
  refine ⟨{k : Nat // k ≤ 2 ∧ (2 ≤ k → e = 0)}, fun k => { vs := [(3, .box 0 (eS K)), (4, .box 0 (eTy (.app x1 x2))), (5, .box 0 (eTy (.app y1 y2))), (6, .box 0 (eS [])), (8, .box 0 (eS (if k.1 = 0 then K else if k.1 = 1 then K1 else K2))), (9, .v (.lit (.int .i64 (k.1 : Nat))))] },
    fun k => 2 - k.1, ⟨0, by omega, by omega⟩, ⟨⟨rfl, rfl, rfl, rfl, rfl, rfl, trivial⟩, trivial, rfl⟩, ?_⟩
  rintro ⟨k, hk, hk2⟩
  match k, hk, hk2 with
  | 0, hk, hk2 =>
    refine ⟨fun hbs => ?_, fun hbs => ?_⟩ <;> first | (exfalso; revert hbs; (simp [Tp.eArgs]); done) | skip
    refine ⟨eTy x1, by simp, rfl, rfl, ?_⟩
    refine ⟨eTy y1, by simp, rfl, rfl, ?_⟩
    refine .inl ⟨_, h1, ?_⟩
    refine ⟨by kernel_rfl, ?_⟩
    refine ⟨fun hbs => ?_, fun hbs => ?_⟩ <;> first | (exfalso; revert hbs; (simp); done) | skip
    refine ⟨⟨1, by omega, by omega⟩, by simp, ⟨rfl, rfl, rfl, rfl, rfl, rfl, trivial⟩, trivial, rfl⟩
  | 1, hk, hk2 =>
    refine ⟨fun hbs => ?_, fun hbs => ?_⟩ <;> first | (exfalso; revert hbs; (simp [Tp.eArgs]); done) | skip
    refine ⟨eTy x2, by simp, rfl, rfl, ?_⟩
    refine ⟨eTy y2, by simp, rfl, rfl, ?_⟩
    refine .inl ⟨_, h2, ?_⟩
    refine ⟨by kernel_rfl, ?_⟩
    by_cases he : e = 0
    · refine ⟨fun hbs => ?_, fun hbs => ?_⟩ <;> first | (exfalso; revert hbs; (simp [he]); done) | skip
      refine ⟨⟨2, by omega, fun _ => he⟩, by simp, ⟨rfl, rfl, rfl, rfl, rfl, rfl, trivial⟩, trivial, rfl⟩
    · refine ⟨fun hbs => ?_, fun hbs => ?_⟩ <;> first | (exfalso; revert hbs; (simp [he]); done) | skip
      rw [if_neg he]
      exact rfl
  | 2, hk, hk2 =>
    have he := hk2 (by omega)
    refine ⟨fun hbs => ?_, fun hbs => ?_⟩ <;> first | (exfalso; revert hbs; (simp [Tp.eArgs]); done) | skip
    subst he
    exact rfl
end Go.Proofs.YtigifkjcghkiiaaDoor
