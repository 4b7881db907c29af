/- The document's print: numbers, types, lists of texts. No condition. -/
import Derived.Test.YtefdahofpjmnfaaDoorK
set_option linter.unusedSimpArgs false
set_option linter.unusedVariables false
namespace Go.Proofs.YtefdahofpjmnfaaDoor
open Go Fp
set_option maxRecDepth 10000
set_option maxHeartbeats 16000000
set_option linter.unusedVariables false
set_option linter.unusedSimpArgs false

/-- A number's digits. -/
def dcm (n : Nat) : ByteArray := if h : n < 10 then ⟨#[UInt8.ofNat (48 + n)]⟩ else dcm (n / 10) ++ ⟨#[UInt8.ofNat (48 + n % 10)]⟩
termination_by n
theorem dcm_small {n : Nat} (h : n < 10) : dcm n = ⟨#[UInt8.ofNat (48 + n)]⟩ := by rw [dcm, dif_pos h]
theorem dcm_big {n : Nat} (h : ¬ n < 10) : dcm n = dcm (n / 10) ++ ⟨#[UInt8.ofNat (48 + n % 10)]⟩ := by rw [dcm, dif_neg h]
theorem sz1 (x : UInt8) : (ByteArray.mk #[x]).size = 1 := rfl
theorem dcm_size : ∀ (k n : Nat), n < 10 ^ k → 0 < k → (dcm n).size ≤ k
  | 0, n, h, hk => by omega
  | k + 1, n, h, _ => by
    by_cases h10 : n < 10
    · rw [dcm_small h10, sz1]; omega
    · rw [dcm_big h10, ByteArray.size_append, sz1]
      have hk : 0 < k := by
        rcases Nat.eq_zero_or_pos k with rfl | h'
        · simp at h; omega
        · exact h'
      have := dcm_size k (n / 10) (by rw [Nat.pow_succ] at h; omega) hk
      omega
theorem wrap8 {n : Nat} (h : n < 256) : IntKind.u8.wrap (n : Int) = n := by
  simp [IntKind.wrap, IntKind.signed, IntKind.bits]; omega
theorem decimal_ok (N : Nat) : ∀ n : Nat, n ≤ N → N < 1000000000 → ACall Tryd.prog n_fugueref01_Decimal [.lit (.int .i64 (n : Nat))] (.lit (.string (dcm n))) := by
  induction N using Nat.strongRecOn with
  | _ N ih =>
    intro n hn hN
    refine acall_of_wc ttok mixed Tryd.func48 rfl (by rfl) (Nat.le_of_ble_eq_true rfl) (by kernel_rfl) ?_
    have e1 : ((n : Int).tmod 10) = ((n % 10 : Nat) : Int) := rfl
    have e2 : IntKind.i64.wrap (48 + (n : Int).tmod 10) = ((48 + n % 10 : Nat) : Int) := by rw [e1, show (48 : Int) + ((n % 10 : Nat) : Int) = ((48 + n % 10 : Nat) : Int) by omega]; exact wrap_nat (by omega)
    have e3 : IntKind.u8.wrap (IntKind.i64.wrap (48 + (n : Int).tmod 10)) = ((48 + n % 10 : Nat) : Int) := by rw [e2]; exact wrap8 (by omega)
    have e4 : IntKind.i64.wrap ((n : Int).tdiv 10) = ((n / 10 : Nat) : Int) := by rw [show ((n : Int).tdiv 10) = ((n / 10 : Nat) : Int) by simp]; exact wrap_nat (by omega)
    have hb : (IntKind.u8.wrap (IntKind.i64.wrap (48 + (n : Int).tmod 10))).toNat = 48 + n % 10 := by rw [e3]; rfl
    refine ⟨by decide, ?_⟩
    refine ⟨fun h => by simp at h; omega, fun _ => ?_⟩
    refine ⟨fun _ => ?_, fun h => by simp at h; omega⟩
    refine ⟨fun h => ?_, fun h => ?_⟩
    · have h : n < 10 := by simp at h; omega
      refine ⟨fun h => by simp at h; omega, fun _ => ?_⟩
      show AV.lit (.string ⟨[UInt8.ofNat (IntKind.u8.wrap (IntKind.i64.wrap (48 + (n : Int).tmod 10))).toNat].toArray⟩) = _
      rw [hb, dcm_small h, Nat.mod_eq_of_lt h]
    · have h : ¬ n < 10 := by simp at h; omega
      have hc := ih (n / 10) (by omega) (n / 10) (Nat.le_refl _) (by omega)
      rw [← e4] at hc
      refine ⟨by decide, .inl ⟨_, hc, ?_⟩⟩
      refine ⟨?_, ?_⟩
      · have := dcm_size 9 (n / 10) (by omega) (by decide)
        show _ + (ByteArray.mk #[_]).size ≤ _
        rw [sz1]; omega
      · show AV.lit (.string (dcm (n / 10) ++ ⟨[UInt8.ofNat (IntKind.u8.wrap (IntKind.i64.wrap (48 + (n : Int).tmod 10))).toNat].toArray⟩)) = _
        rw [hb, dcm_big h]

theorem fn_con (s : ByteArray) : ACall Tryd.prog n_fugueref04_Function [eTy (.con s)] (.sb false) := by
  refine acall_of_wcx ttok mixed Tryd.func83 rfl (by rfl) (Nat.le_of_ble_eq_true rfl) (by kernel_rfl) ?_
  refine ⟨fun hbs => ?_, fun hbs => ?_⟩ <;> first | (exfalso; revert hbs; intro hbs; cases hbs; done) | skip
  exact rfl
theorem fn_app (a b : ByteArray) : ACall Tryd.prog n_fugueref04_Function [eTy (.app (.con a) (.con b))] (.sb false) := by
  refine acall_of_wcx ttok mixed Tryd.func83 rfl (by rfl) (Nat.le_of_ble_eq_true rfl) (by kernel_rfl) ?_
  refine ⟨fun hbs => ?_, fun hbs => ?_⟩ <;> first | (exfalso; revert hbs; intro hbs; cases hbs; done) | skip
  refine ⟨_, by omega, rfl, rfl, ?_⟩
  refine ⟨fun hbs => ?_, fun hbs => ?_⟩ <;> first | (exfalso; revert hbs; intro hbs; cases hbs; done) | skip
  exact rfl
theorem brk04 (s : ByteArray) (b : Bool) (hb : b = false) : ACall Tryd.prog n_fugueref04_bracket [.lit (.string s), .sb b] (.lit (.string s)) := by
  subst hb
  refine acall_of_wcx ttok mixed Tryd.func84 rfl (by rfl) (Nat.le_of_ble_eq_true rfl) (by kernel_rfl) ?_
  refine ⟨fun hbs => ?_, fun hbs => ?_⟩ <;> first | (exfalso; revert hbs; intro hbs; cases hbs; done) | skip
  exact rfl
theorem pcon_ok (s : ByteArray) (hs : s ≠ ⟨#[45, 62]⟩) : ACall Tryd.prog n_fugueref04_Print [eTy (.con s)] (.lit (.string s)) := by
  have h1 := fn_con s
  have h2 := brk04 s (decide (s = ⟨#[45, 62]⟩)) (decide_eq_false hs)
  refine acall_of_wcx ttok mixed Tryd.func51 rfl (by rfl) (Nat.le_of_ble_eq_true rfl) (by kernel_rfl) ?_
  refine .inl ⟨_, h1, ?_⟩
  refine ⟨fun hbs => ?_, fun hbs => ?_⟩ <;> first | (exfalso; revert hbs; intro hbs; cases hbs; done) | skip
  refine ⟨fun hbs => ?_, fun hbs => ?_⟩ <;> first | (exfalso; revert hbs; intro hbs; cases hbs; done) | skip
  refine ⟨fun hbs => ?_, fun hbs => ?_⟩ <;> first | (exfalso; revert hbs; intro hbs; cases hbs; done) | skip
  refine ⟨fun hbs => ?_, fun hbs => ?_⟩ <;> first | (exfalso; revert hbs; intro hbs; cases hbs; done) | skip
  refine ⟨fun hbs => ?_, fun hbs => ?_⟩ <;> first | (exfalso; revert hbs; intro hbs; cases hbs; done) | skip
  refine .inl ⟨_, h2, ?_⟩
  exact rfl
theorem papp_ok (a b : ByteArray) (ha : a ≠ ⟨#[45, 62]⟩) (hb : b ≠ ⟨#[45, 62]⟩) (ha2 : a.size ≤ 10) (hb2 : b.size ≤ 10) : ACall Tryd.prog n_fugueref04_Print [eTy (.app (.con a) (.con b))] (.lit (.string (a ++ ⟨#[32]⟩ ++ b))) := by
  have h1 := fn_app a b
  have h2 := fn_con a
  have h3 := pcon_ok a ha
  have h4 := pcon_ok b hb
  have h5 := brk04 a (decide ((Tp.con a).form = 5)) rfl
  have h6 := brk04 b (decide ((Tp.con b).form = 5)) rfl
  refine acall_of_wcx ttok mixed Tryd.func51 rfl (by rfl) (Nat.le_of_ble_eq_true rfl) (by kernel_rfl) ?_
  refine .inl ⟨_, h1, ?_⟩
  refine ⟨fun hbs => ?_, fun hbs => ?_⟩ <;> first | (exfalso; revert hbs; intro hbs; cases hbs; done) | skip
  refine ⟨fun hbs => ?_, fun hbs => ?_⟩ <;> first | (exfalso; revert hbs; intro hbs; cases hbs; done) | skip
  refine ⟨fun hbs => ?_, fun hbs => ?_⟩ <;> first | (exfalso; revert hbs; intro hbs; cases hbs; done) | skip
  refine ⟨_, by omega, rfl, rfl, ?_⟩
  refine ⟨_, by omega, rfl, rfl, ?_⟩
  refine .inl ⟨_, h2, ?_⟩
  refine .inl ⟨_, h3, ?_⟩
  refine ⟨fun hbs => ?_, fun hbs => ?_⟩ <;> first | (exfalso; revert hbs; intro hbs; cases hbs; done) | skip
  refine .inl ⟨_, h5, ?_⟩
  refine ⟨by show a.size + 1 ≤ _; omega, ?_⟩
  refine .inl ⟨_, h4, ?_⟩
  refine ⟨fun hbs => ?_, fun hbs => ?_⟩ <;> first | (exfalso; revert hbs; intro hbs; cases hbs; done) | skip
  refine .inl ⟨_, h6, ?_⟩
  refine ⟨by show (a ++ ⟨#[32]⟩).size + b.size ≤ _; rw [ByteArray.size_append]; show a.size + 1 + b.size ≤ _; omega, ?_⟩
  refine ⟨by kernel_rfl, ?_⟩
  exact rfl
end Go.Proofs.YtefdahofpjmnfaaDoor

namespace Go.Proofs.YtefdahofpjmnfaaDoor
open Go Fp
set_option maxRecDepth 10000
set_option maxHeartbeats 16000000
set_option linter.unusedVariables false
set_option linter.unusedSimpArgs false

def jnK (sep : ByteArray) (l : List ByteArray) : Nat → ByteArray
  | 0 => .empty
  | k + 1 => (if 0 < k then jnK sep l k ++ sep else jnK sep l k) ++ (l[k]?.getD .empty)
def sumS (l : List ByteArray) : Nat := (l.map ByteArray.size).sum
theorem sumS_take {l : List ByteArray} {k : Nat} (h : k < l.length) : sumS (l.take (k + 1)) = sumS (l.take k) + l[k].size := by
  unfold sumS; rw [List.take_succ_eq_append_getElem h, List.map_append, List.sum_append]; simp
theorem sumS_le : ∀ (l : List ByteArray) (k : Nat), sumS (l.take k) ≤ sumS l
  | [], k => by simp
  | a :: l, 0 => by simp [sumS]
  | a :: l, k + 1 => by have := sumS_le l k; simp only [sumS, List.take_succ_cons, List.map_cons, List.sum_cons] at *; omega
theorem jnK_size (sep : ByteArray) (l : List ByteArray) : ∀ k, k ≤ l.length → (jnK sep l k).size ≤ sumS (l.take k) + k * sep.size
  | 0, _ => by simp [jnK]
  | k + 1, h => by
    have ih := jnK_size sep l k (by omega)
    rw [jnK, ByteArray.size_append, sumS_take (by omega), List.getElem?_eq_getElem (by omega), Nat.add_mul]
    simp only [Option.getD_some]
    split
    · rw [ByteArray.size_append]; omega
    · omega

theorem joined_ok (l : List ByteArray) (sep : ByteArray) (hl : l.length < 20000) (hs : sep.size ≤ 3) (hb : sumS l ≤ 4611686018427000000) : ACall Tryd.prog n_fugueref18_joined [.sl (eSs l), .lit (.string sep)] (.lit (.string (jnK sep l l.length))) := by
  have hjs := fun k (hk : k ≤ l.length) => jnK_size sep l k hk
  have hks : ∀ k, k ≤ l.length → k * sep.size ≤ 60000 := fun k hk => by
    have : k * sep.size ≤ 20000 * 3 := Nat.mul_le_mul (by omega) hs
    omega
  refine acall_of_wcx ttok mixed Tryd.func85 rfl (by rfl) (Nat.le_of_ble_eq_true rfl) (by kernel_rfl) ?_
  refine ⟨{k : Nat // k ≤ l.length}, fun k => { vs := [(0, .v (.sl (eSs l))), (1, .v (.lit (.string sep))), (5, .v (.lit (.string (jnK sep l k.1)))), (6, sv (k.1 : Nat))] },
    fun k => l.length - k.1, ⟨0, Nat.zero_le _⟩, ⟨⟨rfl, rfl, rfl, rfl, trivial⟩, trivial, rfl⟩, ?_⟩
  rintro ⟨k, hk⟩
  refine ⟨fun h => ?_, fun h => ?_⟩
  · have h : k < l.length := by have h := of_decide_eq_true h; rw [lenS] at h; simp only at h; omega
    have h1 := hjs k hk
    have h2 := hks k hk
    have h3 := hjs (k + 1) h
    have h4 := hks (k + 1) h
    have h5 := sumS_le l (k + 1)
    have h6 := sumS_le l k
    rw [jnK, List.getElem?_eq_getElem h] at h3
    simp only [Option.getD_some] at h3
    have hst : jnK sep l (k + 1) = (if 0 < k then jnK sep l k ++ sep else jnK sep l k) ++ l[k] := by rw [jnK, List.getElem?_eq_getElem h]; rfl
    by_cases h0 : 0 < k
    · rw [if_pos h0] at h3 hst
      rw [ByteArray.size_append, ByteArray.size_append] at h3
      refine ⟨fun hbs => ?_, fun hbs => ?_⟩ <;> first | (exfalso; revert hbs; (simp; omega); done) | skip
      refine ⟨by show (jnK sep l k).size + sep.size ≤ _; omega, ?_⟩
      refine ⟨_, by omega, getS h, rfl, ?_⟩
      refine ⟨by show (jnK sep l k ++ sep).size + l[k].size ≤ _; rw [ByteArray.size_append]; omega, ?_⟩
      refine ⟨⟨k + 1, h⟩, by simp; omega, ⟨rfl, rfl, ?_, svc (wrap_succ (k := k) (by omega)), trivial⟩, trivial, rfl⟩
      exact congrArg (fun s => SV.v (AV.lit (Value.string s))) hst.symm
    · rw [if_neg h0] at h3 hst
      rw [ByteArray.size_append] at h3
      refine ⟨fun hbs => ?_, fun hbs => ?_⟩ <;> first | (exfalso; revert hbs; (simp; omega); done) | skip
      refine ⟨_, by omega, getS h, rfl, ?_⟩
      refine ⟨by show (jnK sep l k).size + l[k].size ≤ _; omega, ?_⟩
      refine ⟨⟨k + 1, h⟩, by simp; omega, ⟨rfl, rfl, ?_, svc (wrap_succ (k := k) (by omega)), trivial⟩, trivial, rfl⟩
      exact congrArg (fun s => SV.v (AV.lit (Value.string s))) hst.symm
  · have h : k = l.length := by have h := of_decide_eq_false h; rw [lenS] at h; simp only at h; omega
    subst h
    exact rfl

theorem braced_ok (l : List ByteArray) (hl : l.length < 20000) (hb : sumS l ≤ 4611686018427000000) : ∃ s : ByteArray, s.size ≤ sumS l + 3 * l.length + 4 ∧ ACall Tryd.prog n_fugueref18_braced [.sl (eSs l)] (.lit (.string s)) := by
  by_cases h0 : l = []
  · subst h0
    refine ⟨⟨#[123, 32, 125]⟩, by simp [sumS]; decide, ?_⟩
    refine acall_of_wcx ttok mixed Tryd.func52 rfl (by rfl) (Nat.le_of_ble_eq_true rfl) (by kernel_rfl) ?_
    refine ⟨fun hbs => ?_, fun hbs => ?_⟩ <;> first | (exfalso; revert hbs; intro hbs; cases hbs; done) | skip
    exact rfl
  · have hJ := joined_ok l ⟨#[32, 59, 32]⟩ hl (by decide) hb
    have hz := jnK_size ⟨#[32, 59, 32]⟩ l l.length (Nat.le_refl _)
    rw [List.take_length, show (⟨#[32, 59, 32]⟩ : ByteArray).size = 3 from rfl] at hz
    refine ⟨⟨#[123, 32]⟩ ++ jnK ⟨#[32, 59, 32]⟩ l l.length ++ ⟨#[32, 125]⟩, ?_, ?_⟩
    · rw [ByteArray.size_append, ByteArray.size_append, show (⟨#[123, 32]⟩ : ByteArray).size = 2 from rfl, show (⟨#[32, 125]⟩ : ByteArray).size = 2 from rfl]; omega
    have hne : ¬ ((eSs l).length : Int) = 0 := by
      rw [lenS]; have : l.length ≠ 0 := fun h => h0 (List.length_eq_zero_iff.1 h)
      omega
    refine acall_of_wcx ttok mixed Tryd.func52 rfl (by rfl) (Nat.le_of_ble_eq_true rfl) (by kernel_rfl) ?_
    refine ⟨fun hbs => ?_, fun hbs => ?_⟩ <;> first | (exfalso; revert hbs; (intro h; exact hne (of_decide_eq_true h)); done) | skip
    refine .inl ⟨_, hJ, ?_⟩
    refine ⟨by show 2 + _ ≤ _; omega, ?_⟩
    refine ⟨by rw [ByteArray.size_append]; show 2 + _ + 2 ≤ _; omega, ?_⟩
    exact rfl

theorem takes_con (to : Tp) (s : ByteArray) (vs : List ByteArray) (k : Cr) (hl : vs.length ≤ 2) (hs : s.size ≤ 5) (hv : ∀ v ∈ vs, v.size ≤ 700) : ∃ x : ByteArray, x.size ≤ 1420 ∧ ACall Tryd.prog n_fugueref18_takes [eAlt to (1, 0, s, vs) k] (.lit (.string x)) := by
  have hsum : sumS (s :: vs) ≤ 1405 := by
    match vs, hl with
    | [], _ => simp [sumS]; omega
    | [a], _ => have := hv a (by simp); simp [sumS]; omega
    | [a, b], _ => have := hv a (by simp); have := hv b (by simp); simp [sumS]; omega
    | _ :: _ :: _ :: _, h => simp at h
  have hJ := joined_ok (s :: vs) ⟨#[32]⟩ (by simp; omega) (by decide) (by omega)
  have hz := jnK_size ⟨#[32]⟩ (s :: vs) (s :: vs).length (Nat.le_refl _)
  rw [List.take_length, show (⟨#[32]⟩ : ByteArray).size = 1 from rfl] at hz
  refine ⟨jnK ⟨#[32]⟩ (s :: vs) (s :: vs).length, ?_, ?_⟩
  · simp only [List.length_cons] at hz ⊢; omega
  refine acall_of_wcx ttok mixed Tryd.func53 rfl (by rfl) (Nat.le_of_ble_eq_true rfl) (by kernel_rfl) ?_
  refine ⟨fun hbs => ?_, fun hbs => ?_⟩ <;> first | (exfalso; revert hbs; intro hbs; cases hbs; done) | skip
  refine ⟨by simp, uni0 _, uniS [s], ?_⟩
  refine ⟨by rw [lenS]; simp; omega, uniApp (uni0 _) (uniS [s]), uniS vs, ?_⟩
  refine .inl ⟨_, hJ, ?_⟩
  exact rfl
theorem takes_int (to : Tp) (n : Nat) (hn : n < 1000) (k : Cr) : ∃ x : ByteArray, x.size ≤ 1420 ∧ ACall Tryd.prog n_fugueref18_takes [eAlt to (2, (n : Int), .empty, []) k] (.lit (.string x)) := by
  have hd := decimal_ok n n (Nat.le_refl _) (by omega)
  have := dcm_size 3 n (by omega) (by decide)
  refine ⟨dcm n, by omega, ?_⟩
  refine acall_of_wcx ttok mixed Tryd.func53 rfl (by rfl) (Nat.le_of_ble_eq_true rfl) (by kernel_rfl) ?_
  refine ⟨fun hbs => ?_, fun hbs => ?_⟩ <;> first | (exfalso; revert hbs; intro hbs; cases hbs; done) | skip
  refine ⟨fun hbs => ?_, fun hbs => ?_⟩ <;> first | (exfalso; revert hbs; intro hbs; cases hbs; done) | skip
  refine .inl ⟨_, hd, ?_⟩
  exact rfl
theorem takes_else (to : Tp) (k : Cr) : ∃ x : ByteArray, x.size ≤ 1420 ∧ ACall Tryd.prog n_fugueref18_takes [eAlt to (3, 0, .empty, []) k] (.lit (.string x)) := by
  refine ⟨⟨#[95]⟩, by decide, ?_⟩
  refine acall_of_wcx ttok mixed Tryd.func53 rfl (by rfl) (Nat.le_of_ble_eq_true rfl) (by kernel_rfl) ?_
  refine ⟨fun hbs => ?_, fun hbs => ?_⟩ <;> first | (exfalso; revert hbs; intro hbs; cases hbs; done) | skip
  refine ⟨fun hbs => ?_, fun hbs => ?_⟩ <;> first | (exfalso; revert hbs; intro hbs; cases hbs; done) | skip
  exact rfl
end Go.Proofs.YtefdahofpjmnfaaDoor

namespace Go.Proofs.YtefdahofpjmnfaaDoor
open Go Fp
set_option maxRecDepth 10000
set_option maxHeartbeats 16000000
set_option linter.unusedVariables false
set_option linter.unusedSimpArgs false

abbrev Pr (c : AV) (s : ByteArray) : Prop := ACall Tryd.prog n_fugueref18_Print [c] (.lit (.string s))
theorem few_var (s : ByteArray) : ACall Tryd.prog n_fugueref18_Few [eVar s] (.sb false) := by
  refine acall_of_wcx ttok mixed Tryd.func47 rfl (by rfl) (Nat.le_of_ble_eq_true rfl) (by kernel_rfl) ?_
  repeat (refine ⟨fun hbs => ?_, fun hbs => ?_⟩ <;> first | (exfalso; revert hbs; intro hbs; cases hbs; done) | skip)
  exact rfl
theorem few_int (n : Int) : ACall Tryd.prog n_fugueref18_Few [eCi n] (.sb false) := by
  refine acall_of_wcx ttok mixed Tryd.func47 rfl (by rfl) (Nat.le_of_ble_eq_true rfl) (by kernel_rfl) ?_
  repeat (refine ⟨fun hbs => ?_, fun hbs => ?_⟩ <;> first | (exfalso; revert hbs; intro hbs; cases hbs; done) | skip)
  exact rfl
theorem few_fail (to : Tp) : ACall Tryd.prog n_fugueref18_Few [eCr to .fail] (.sb false) := by
  refine acall_of_wcx ttok mixed Tryd.func47 rfl (by rfl) (Nat.le_of_ble_eq_true rfl) (by kernel_rfl) ?_
  repeat (refine ⟨fun hbs => ?_, fun hbs => ?_⟩ <;> first | (exfalso; revert hbs; intro hbs; cases hbs; done) | skip)
  exact rfl
abbrev cL (n : Int) (bs : List Bd) : AV := .agg [.lit (.int .i64 8), .lit (.int .i64 0), .lit (.string .empty), .lit (.int .i64 0), .lit (.int .i64 0), .lit (.string .empty), .sl [], .sl [eCi n], .sl (eLs bs), .sl []]
theorem few_let (n : Int) (bs : List Bd) : ACall Tryd.prog n_fugueref18_Few [cL n bs] (.sb false) := by
  refine acall_of_wcx ttok mixed Tryd.func47 rfl (by rfl) (Nat.le_of_ble_eq_true rfl) (by kernel_rfl) ?_
  repeat (refine ⟨fun hbs => ?_, fun hbs => ?_⟩ <;> first | (exfalso; revert hbs; intro hbs; cases hbs; done) | skip)
  exact rfl
theorem few_cas (to : Tp) (v : ByteArray) (alts : List AV) : ACall Tryd.prog n_fugueref18_Few [cC to v alts] (.sb false) := by
  refine acall_of_wcx ttok mixed Tryd.func47 rfl (by rfl) (Nat.le_of_ble_eq_true rfl) (by kernel_rfl) ?_
  repeat (refine ⟨fun hbs => ?_, fun hbs => ?_⟩ <;> first | (exfalso; revert hbs; intro hbs; cases hbs; done) | skip)
  exact rfl

theorem print_var (s : ByteArray) : Pr (eVar s) s := by
  refine acall_of_wcx ttok mixed Tryd.func14 rfl (by rfl) (Nat.le_of_ble_eq_true rfl) (by kernel_rfl) ?_
  refine .inl ⟨_, few_var s, ?_⟩
  repeat (refine ⟨fun hbs => ?_, fun hbs => ?_⟩ <;> first | (exfalso; revert hbs; intro hbs; cases hbs; done) | skip)
  exact rfl
theorem print_int (n : Nat) (hn : n < 1000) : ∃ s : ByteArray, s.size ≤ 3 ∧ Pr (eCi n) s := by
  have hd := decimal_ok n n (Nat.le_refl _) (by omega)
  refine ⟨dcm n, dcm_size 3 n (by omega) (by decide), ?_⟩
  refine acall_of_wcx ttok mixed Tryd.func14 rfl (by rfl) (Nat.le_of_ble_eq_true rfl) (by kernel_rfl) ?_
  refine .inl ⟨_, few_int n, ?_⟩
  repeat (refine ⟨fun hbs => ?_, fun hbs => ?_⟩ <;> first | (exfalso; revert hbs; intro hbs; cases hbs; done) | skip)
  refine .inl ⟨_, hd, ?_⟩
  exact rfl
abbrev PT (t : Tp) (s : ByteArray) : Prop := ACall Tryd.prog n_fugueref04_Print [eTy t] (.lit (.string s))
theorem print_fail (to : Tp) (T : ByteArray) (hT : PT to T) (hs : T.size ≤ 20) : ∃ s : ByteArray, s.size ≤ 100 ∧ Pr (eCr to .fail) s := by
  refine ⟨⟨#[102, 97, 105, 108, 32, 91]⟩ ++ T ++ ⟨#[93]⟩, ?_, ?_⟩
  · rw [ByteArray.size_append, ByteArray.size_append]; show 6 + _ + 1 ≤ _; omega
  refine acall_of_wcx ttok mixed Tryd.func14 rfl (by rfl) (Nat.le_of_ble_eq_true rfl) (by kernel_rfl) ?_
  refine .inl ⟨_, few_fail to, ?_⟩
  repeat (refine ⟨fun hbs => ?_, fun hbs => ?_⟩ <;> first | (exfalso; revert hbs; intro hbs; cases hbs; done) | skip)
  refine .inl ⟨_, hT, ?_⟩
  refine ⟨by show 6 + _ ≤ _; omega, ?_⟩
  refine ⟨by rw [ByteArray.size_append]; show 6 + _ + 1 ≤ _; omega, ?_⟩
  exact rfl

def bT (tS : Tp → ByteArray) (q : Bd) : ByteArray := q.1 ++ ⟨#[32, 58, 32]⟩ ++ tS q.2.1 ++ ⟨#[32, 61, 32]⟩ ++ q.2.2
theorem print_let (n : Nat) (hn : n < 1000) (bs : List Bd) (tS : Tp → ByteArray) (hl : bs.length ≤ 700) (hb : ∀ q ∈ bs, q.1.size ≤ 4 ∧ PT q.2.1 (tS q.2.1) ∧ (tS q.2.1).size ≤ 20 ∧ q.2.2.size ≤ 700) : ∃ s : ByteArray, s.size ≤ 600000 ∧ Pr (cL n bs) s := by
  obtain ⟨N, hN1, hN2⟩ := print_int n hn
  have hbT : ∀ q ∈ bs, (bT tS q).size ≤ 740 := fun q hq => by
    obtain ⟨h1, h2, h3, h4⟩ := hb q hq
    unfold bT
    simp only [ByteArray.size_append, show (⟨#[32, 58, 32]⟩ : ByteArray).size = 3 from rfl, show (⟨#[32, 61, 32]⟩ : ByteArray).size = 3 from rfl]; omega
  have hsum : ∀ l : List Bd, (∀ q ∈ l, (bT tS q).size ≤ 740) → sumS (l.map (bT tS)) ≤ l.length * 740 := fun l => by
    induction l with
    | nil => intro _; simp [sumS]
    | cons q l ih =>
      intro h
      have := h q (by simp)
      have := ih (fun q hq => h q (by simp [hq]))
      simp only [sumS, List.map_cons, List.sum_cons, List.length_cons, Nat.add_mul] at *; omega
  have hs := hsum bs hbT
  have hs2 : bs.length * 740 ≤ 700 * 740 := Nat.mul_le_mul_right _ hl
  obtain ⟨B, hB1, hB2⟩ := braced_ok (bs.map (bT tS)) (by simp; omega) (by omega)
  rw [List.length_map] at hB1
  refine ⟨⟨#[108, 101, 116, 32]⟩ ++ B ++ ⟨#[32, 105, 110, 32]⟩ ++ N, ?_, ?_⟩
  · simp only [ByteArray.size_append, show (⟨#[108, 101, 116, 32]⟩ : ByteArray).size = 4 from rfl, show (⟨#[32, 105, 110, 32]⟩ : ByteArray).size = 4 from rfl]; omega
  refine acall_of_wcx ttok mixed Tryd.func14 rfl (by rfl) (Nat.le_of_ble_eq_true rfl) (by kernel_rfl) ?_
  refine .inl ⟨_, few_let n bs, ?_⟩
  repeat (refine ⟨fun hbs => ?_, fun hbs => ?_⟩ <;> first | (exfalso; revert hbs; intro hbs; cases hbs; done) | skip)
  refine ⟨{k : Nat // k ≤ bs.length}, fun k => { vs := [(1, .box 0 (cL n bs)), (3, .v (.sl (eSs ((bs.take k.1).map (bT tS))))), (4, sv (k.1 : Nat))], ow := [(3, 0, 2)] },
    fun k => bs.length - k.1, ⟨0, Nat.zero_le _⟩, ⟨⟨rfl, rfl, rfl, trivial⟩, ⟨trivial, trivial⟩, rfl⟩, ?_⟩
  rintro ⟨k, hk⟩
  refine ⟨fun h => ?_, fun h => ?_⟩
  · have h : k < bs.length := by have h := of_decide_eq_true h; rw [lenL] at h; simp only at h; omega
    have hg : (eLs bs)[k]? = some (eL bs[k]) := getM h
    have hm := List.getElem_mem h
    obtain ⟨h1, h2, h3, h4⟩ := hb _ hm
    have htk := List.take_succ_eq_append_getElem h
    have hpv := print_var bs[k].2.2
    refine ⟨_, by omega, hg, rfl, ?_⟩
    refine ⟨by show bs[k].1.size + 3 ≤ _; omega, ?_⟩
    refine .inl ⟨_, h2, ?_⟩
    refine ⟨by show (bs[k].1 ++ ⟨#[32, 58, 32]⟩).size + (tS bs[k].2.1).size ≤ _; rw [ByteArray.size_append]; show _ + 3 + _ ≤ _; omega, ?_⟩
    refine ⟨by show (bs[k].1 ++ ⟨#[32, 58, 32]⟩ ++ tS bs[k].2.1).size + 3 ≤ _; rw [ByteArray.size_append, ByteArray.size_append]; show _ + 3 + _ + 3 ≤ _; omega, ?_⟩
    refine .inl ⟨_, hpv, ?_⟩
    refine ⟨by show (bs[k].1 ++ ⟨#[32, 58, 32]⟩ ++ tS bs[k].2.1 ++ ⟨#[32, 61, 32]⟩).size + bs[k].2.2.size ≤ _; rw [ByteArray.size_append, ByteArray.size_append, ByteArray.size_append]; show _ + 3 + _ + 3 + _ ≤ _; omega, ?_⟩
    refine ⟨by rw [lenS]; simp; omega, uniS _, uniS [bT tS bs[k]], ?_⟩
    refine ⟨by kernel_rfl, ?_⟩
    refine ⟨⟨k + 1, h⟩, by simp; omega, ⟨rfl, ?_, svc (wrap_succ (k := k) (by omega)), trivial⟩, ⟨rfl, trivial⟩, rfl⟩
    show SV.v (AV.sl (eSs ((bs.take k).map (bT tS)) ++ eSs [bT tS bs[k]])) = SV.v (AV.sl (eSs ((bs.take (k + 1)).map (bT tS))))
    rw [htk, List.map_append, show ∀ a b, eSs (a ++ b) = eSs a ++ eSs b from fun a b => List.map_append]; rfl
  · have h : k = bs.length := by have h := of_decide_eq_false h; rw [lenL] at h; simp only at h; omega
    subst h
    rw [List.take_length]
    refine .inl ⟨_, hB2, ?_⟩
    refine ⟨by show 4 + _ ≤ _; omega, ?_⟩
    refine ⟨by rw [ByteArray.size_append]; show 4 + _ + 4 ≤ _; omega, ?_⟩
    refine ⟨_, by omega, rfl, rfl, ?_⟩
    refine .inl ⟨_, hN2, ?_⟩
    refine ⟨by rw [ByteArray.size_append, ByteArray.size_append]; show 4 + _ + 4 + _ ≤ _; omega, ?_⟩
    refine ⟨by kernel_rfl, ?_⟩
    exact rfl

abbrev Q4 := Hd × Cr × ByteArray × ByteArray
def aT (q : Q4) : ByteArray := q.2.2.1 ++ ⟨#[32, 45, 62, 32]⟩ ++ q.2.2.2
def costL (l : List Q4) : Nat := (l.map fun q => 1500 + q.2.2.2.size).sum
theorem print_cas (to : Tp) (T : ByteArray) (hT : PT to T) (hTs : T.size ≤ 20) (v : ByteArray) (hv : v.size ≤ 700) (L : List Q4) (hl : L.length < 1000) (hL : ∀ q ∈ L, ACall Tryd.prog n_fugueref18_takes [eAlt to q.1 q.2.1] (.lit (.string q.2.2.1)) ∧ q.2.2.1.size ≤ 1420 ∧ Pr (eCr to q.2.1) q.2.2.2)
    (hc : costL L ≤ 4611686018426000000) : ∃ s : ByteArray, s.size ≤ 1000 + costL L ∧ Pr (eCr to (.cas v (L.map (·.1)) (L.map (·.2.1)))) s := by
  rw [eCr_cas, altsL_map]
  have hsum : ∀ l : List Q4, (∀ q ∈ l, q.2.2.1.size ≤ 1420) → sumS (l.map aT) + 10 * l.length ≤ costL l := fun l => by
    induction l with
    | nil => intro _; simp [sumS, costL]
    | cons q l ih =>
      intro h
      have h1 := h q (by simp)
      have h2 := ih (fun q hq => h q (by simp [hq]))
      have h3 : (aT q).size = q.2.2.1.size + 4 + q.2.2.2.size := by unfold aT; rw [ByteArray.size_append, ByteArray.size_append]; rfl
      simp only [sumS, costL, List.map_cons, List.sum_cons, List.length_cons] at *; omega
  have hs := hsum L (fun q hq => (hL q hq).2.1)
  have hone : ∀ q ∈ L, q.2.2.2.size ≤ costL L := by
    clear hs hc hL hl
    induction L with
    | nil => intro q hq; simp at hq
    | cons a L ih =>
      intro q hq
      simp only [costL, List.map_cons, List.sum_cons]
      rcases List.mem_cons.1 hq with rfl | hq
      · omega
      · have := ih q hq; unfold costL at this; omega
  obtain ⟨B, hB1, hB2⟩ := braced_ok (L.map aT) (by simp; omega) (by omega)
  rw [List.length_map] at hB1
  have hpv := print_var v
  refine ⟨⟨#[99, 97, 115, 101, 32]⟩ ++ v ++ ⟨#[32, 58, 32]⟩ ++ T ++ ⟨#[32, 111, 102, 32]⟩ ++ B, ?_, ?_⟩
  · simp only [ByteArray.size_append, show (⟨#[99, 97, 115, 101, 32]⟩ : ByteArray).size = 5 from rfl, show (⟨#[32, 58, 32]⟩ : ByteArray).size = 3 from rfl, show (⟨#[32, 111, 102, 32]⟩ : ByteArray).size = 4 from rfl]; omega
  have hla : (L.map fun q => eAlt to q.1 q.2.1).length = L.length := by simp
  refine acall_of_wcx ttok mixed Tryd.func14 rfl (by rfl) (Nat.le_of_ble_eq_true rfl) (by kernel_rfl) ?_
  refine .inl ⟨_, few_cas to v _, ?_⟩
  repeat (refine ⟨fun hbs => ?_, fun hbs => ?_⟩ <;> first | (exfalso; revert hbs; intro hbs; cases hbs; done) | skip)
  refine ⟨{k : Nat // k ≤ L.length}, fun k => { vs := [(1, .box 0 (cC to v (L.map fun q => eAlt to q.1 q.2.1))), (6, .v (.sl (eSs ((L.take k.1).map aT)))), (7, sv (k.1 : Nat))], ow := [(6, 0, 2)] },
    fun k => L.length - k.1, ⟨0, Nat.zero_le _⟩, ⟨⟨rfl, rfl, rfl, trivial⟩, ⟨trivial, trivial⟩, rfl⟩, ?_⟩
  rintro ⟨k, hk⟩
  refine ⟨fun h => ?_, fun h => ?_⟩
  · have h : k < L.length := by have h := of_decide_eq_true h; rw [hla] at h; simp only at h; omega
    have hg : (L.map fun q => eAlt to q.1 q.2.1)[k]? = some (eAlt to L[k].1 L[k].2.1) := getM (f := fun q : Q4 => eAlt to q.1 q.2.1) h
    have hm := List.getElem_mem h
    obtain ⟨h1, h2, h3⟩ := hL _ hm
    have h4 := hone _ hm
    have htk := List.take_succ_eq_append_getElem h
    refine ⟨_, by omega, hg, rfl, ?_⟩
    refine .inl ⟨_, h1, ?_⟩
    refine ⟨by show L[k].2.2.1.size + 4 ≤ _; omega, ?_⟩
    refine ⟨_, by omega, hg, rfl, ?_⟩
    refine .inl ⟨_, h3, ?_⟩
    refine ⟨by show (L[k].2.2.1 ++ ⟨#[32, 45, 62, 32]⟩).size + L[k].2.2.2.size ≤ _; rw [ByteArray.size_append]; show _ + 4 + _ ≤ _; omega, ?_⟩
    refine ⟨by rw [lenS]; simp; omega, uniS _, uniS [aT L[k]], ?_⟩
    refine ⟨by kernel_rfl, ?_⟩
    refine ⟨⟨k + 1, h⟩, by simp; omega, ⟨rfl, ?_, svc (wrap_succ (k := k) (by omega)), trivial⟩, ⟨rfl, trivial⟩, rfl⟩
    show SV.v (AV.sl (eSs ((L.take k).map aT) ++ eSs [aT L[k]])) = SV.v (AV.sl (eSs ((L.take (k + 1)).map aT)))
    rw [htk, List.map_append, show ∀ a b, eSs (a ++ b) = eSs a ++ eSs b from fun a b => List.map_append]; rfl
  · have h : k = L.length := by have h := of_decide_eq_false h; rw [hla] at h; simp only at h; omega
    subst h
    rw [List.take_length]
    refine ⟨_, by omega, rfl, rfl, ?_⟩
    refine .inl ⟨_, hpv, ?_⟩
    refine ⟨by show 5 + _ ≤ _; omega, ?_⟩
    refine ⟨by rw [ByteArray.size_append]; show 5 + _ + 3 ≤ _; omega, ?_⟩
    refine .inl ⟨_, hT, ?_⟩
    refine ⟨by rw [ByteArray.size_append, ByteArray.size_append]; show 5 + _ + 3 + _ ≤ _; omega, ?_⟩
    refine ⟨by rw [ByteArray.size_append, ByteArray.size_append, ByteArray.size_append]; show 5 + _ + 3 + _ + 4 ≤ _; omega, ?_⟩
    refine .inl ⟨_, hB2, ?_⟩
    refine ⟨by rw [ByteArray.size_append, ByteArray.size_append, ByteArray.size_append, ByteArray.size_append]; show 5 + _ + 3 + _ + 4 + _ ≤ _; omega, ?_⟩
    refine ⟨by kernel_rfl, ?_⟩
    exact rfl
end Go.Proofs.YtefdahofpjmnfaaDoor
