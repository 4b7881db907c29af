/- A part of the proof of a given statement: contracts of functions of the program, under no condition but those that each states. -/
import Derived.Test.YtefdahofpjmnfaaL1
set_option linter.unusedSimpArgs false
set_option linter.unusedVariables false
namespace Go.Proofs.Ytefdahofpjmnfaa
open Go Fp
set_option maxRecDepth 10000
set_option maxHeartbeats 4000000

/-- The number at a place. -/
theorem pick_of {f : Nat} {l : List Int} {k : Nat} (hr : ∀ x ∈ l, InR x)
    (h : (l.length ≤ k → ACall Try.prog f [.sl (eIs l), .lit (.int .i64 (k : Nat))] (.lit (.int .i64 0))) ∧ ∀ x, l[k]? = some x →
      (x < 0 → ACall Try.prog f [.sl (eIs l), .lit (.int .i64 (k : Nat))] (.lit (.int .i64 (IntKind.i64.wrap (0 - IntKind.i64.wrap (x + 1)))))) ∧ (¬ x < 0 → ACall Try.prog f [.sl (eIs l), .lit (.int .i64 (k : Nat))] (.lit (.int .i64 x)))) :
    ∃ r : Nat, r < 9223372036854775808 ∧ ACall Try.prog f [.sl (eIs l), .lit (.int .i64 (k : Nat))] (.lit (.int .i64 (r : Nat))) := by
  by_cases hk : k < l.length
  · obtain ⟨h1, h2⟩ := h.2 l[k] (by simp [hk])
    have hx := hr l[k] (List.getElem_mem hk)
    generalize l[k] = x at *
    have hx' := hx
    unfold InR at hx
    by_cases h0 : x < 0
    · have e1 : IntKind.i64.wrap (x + 1) = x + 1 := wrap_in (by unfold InR; omega)
      have e2 : IntKind.i64.wrap (0 - (x + 1)) = -(x + 1) := by rw [wrap_in (by unfold InR; omega)]; omega
      refine ⟨(-(x + 1)).toNat, by omega, ?_⟩
      have := h1 h0
      rw [e1, e2] at this
      rw [show ((-(x + 1)).toNat : Int) = -(x + 1) by omega]
      exact this
    · refine ⟨x.toNat, by omega, ?_⟩
      rw [show (x.toNat : Int) = x by omega]
      exact h2 h0
  · exact ⟨0, by omega, h.1 (by omega)⟩

theorem pick20_ok {l : List Int} {k : Nat} (hr : ∀ x ∈ l, InR x) : ∃ r : Nat, r < 9223372036854775808 ∧ ACall Try.prog n_fugueref20_pick [.sl (eIs l), .lit (.int .i64 (k : Nat))] (.lit (.int .i64 (r : Nat))) := by
  refine pick_of hr ⟨fun h => ?_, fun x hx => ⟨fun h0 => ?_, fun h0 => ?_⟩⟩
  · refine acall_of_wc ttok mixed Try.func22 rfl (by rfl) (Nat.le_of_ble_eq_true rfl) (by kernel_rfl) ?_
    refine ⟨fun _ => rfl, fun h' => ?_⟩
    simp [eIs] at h'; omega
  all_goals
    have hk := (List.getElem?_eq_some_iff.1 hx).1
    have hm : (eIs l)[k]? = some (.lit (.int .i64 x)) := by simp [eIs, hx]
    refine acall_of_wc ttok mixed Try.func22 rfl (by rfl) (Nat.le_of_ble_eq_true rfl) (by kernel_rfl) ?_
    refine ⟨fun h' => by simp [eIs] at h'; omega, fun _ => ?_⟩
    refine ⟨_, by omega, hm, rfl, ?_⟩
  · refine ⟨fun _ => ?_, fun h' => by simp at h'; omega⟩
    exact ⟨_, by omega, hm, rfl, rfl⟩
  · refine ⟨fun h' => by simp at h'; omega, fun _ => ?_⟩
    exact ⟨_, by omega, hm, rfl, rfl⟩
theorem pick14_ok {l : List Int} {k : Nat} (hr : ∀ x ∈ l, InR x) : ∃ r : Nat, r < 9223372036854775808 ∧ ACall Try.prog n_fugueref14_pick [.sl (eIs l), .lit (.int .i64 (k : Nat))] (.lit (.int .i64 (r : Nat))) := by
  refine pick_of hr ⟨fun h => ?_, fun x hx => ⟨fun h0 => ?_, fun h0 => ?_⟩⟩
  · refine acall_of_wc ttok mixed Try.func33 rfl (by rfl) (Nat.le_of_ble_eq_true rfl) (by kernel_rfl) ?_
    refine ⟨fun _ => rfl, fun h' => ?_⟩
    simp [eIs] at h'; omega
  all_goals
    have hk := (List.getElem?_eq_some_iff.1 hx).1
    have hm : (eIs l)[k]? = some (.lit (.int .i64 x)) := by simp [eIs, hx]
    refine acall_of_wc ttok mixed Try.func33 rfl (by rfl) (Nat.le_of_ble_eq_true rfl) (by kernel_rfl) ?_
    refine ⟨fun h' => by simp [eIs] at h'; omega, fun _ => ?_⟩
    refine ⟨_, by omega, hm, rfl, ?_⟩
  · refine ⟨fun _ => ?_, fun h' => by simp at h'; omega⟩
    exact ⟨_, by omega, hm, rfl, rfl⟩
  · refine ⟨fun h' => by simp at h'; omega, fun _ => ?_⟩
    exact ⟨_, by omega, hm, rfl, rfl⟩

/-- One digit: some text of one byte. -/
theorem digit_ok (n : Int) : ∃ s : ByteArray, s.size ≤ 1 ∧ ACall Try.prog n_fugueref14_digit [.lit (.int .i64 n)] (.lit (.string s)) := by
  refine ⟨⟨#[UInt8.ofNat (IntKind.u8.wrap (IntKind.i64.wrap (48 + n.tmod 10))).toNat]⟩, Nat.le_refl 1, ?_⟩
  refine acall_of_wc ttok mixed Try.func35 rfl (by rfl) (Nat.le_of_ble_eq_true rfl) (by kernel_rfl) ?_
  refine ⟨by decide, ?_⟩
  exact rfl

theorem given_ok (s : ByteArray) (l : List Tp) (hl : l.length < 1000) : ACall Try.prog n_fugueref14_given [.lit (.string s), .sl (eTys l)] (eTy (l.foldl .app (.con s))) := by
  refine acall_of_wc ttok mixed Try.func50 rfl (by rfl) (Nat.le_of_ble_eq_true rfl) (by kernel_rfl) ?_
  refine ⟨{k : Nat // k ≤ l.length}, fun k => { vs := [(1, .v (.sl (eTys l))), (4, .box 0 (eTy .no)), (5, .box 0 (eTy ((l.take k.1).foldl .app (.con s)))), (6, .v (.lit (.int .i64 (k.1 : Nat))))] },
    fun k => l.length - k.1, ⟨0, Nat.zero_le _⟩, ⟨⟨rfl, rfl, rfl, rfl, trivial⟩, trivial, rfl⟩, ?_⟩
  rintro ⟨k, hk⟩
  refine ⟨fun h => ?_, fun h => ?_⟩
  · have h : k < l.length := by simp [eTys] at h; omega
    refine ⟨_, by omega, getT h, rfl, ?_⟩
    refine ⟨⟨k + 1, h⟩, by simp; omega, ⟨rfl, rfl, ?_, ?_, trivial⟩, trivial, rfl⟩
    · show SV.box _ (eTy (.app ((l.take k).foldl .app (.con s)) l[k])) = SV.box _ (eTy ((l.take (k + 1)).foldl .app (.con s)))
      rw [List.take_succ_eq_append_getElem h, List.foldl_append]; rfl
    · exact congrArg (fun l => SV.v (AV.lit (Value.int .i64 l))) (wrap_succ (k := k) (by omega))
  · have h : k = l.length := by simp [eTys] at h; omega
    subst h
    show eTy ((l.take l.length).foldl .app (.con s)) = _
    rw [List.take_length]

theorem worldType_ok (t : Nat) (ht : t < 5) : ACall Try.prog n_fugueref14_WorldType [.lit (.int .i64 (t : Nat))] (eTy (wTy t)) := by
  refine acall_of_wc ttok mixed Try.func34 rfl (by rfl) (Nat.le_of_ble_eq_true rfl) (by kernel_rfl) ?_
  match t, ht with
  | 0, _ => exact ⟨fun _ => .inl ⟨_, given_ok sInt [] (by decide), rfl⟩, fun h => by simp at h⟩
  | 1, _ => exact ⟨fun h => by simp at h, fun _ => ⟨fun _ => .inl ⟨_, given_ok sBool [] (by decide), rfl⟩, fun h => by simp at h⟩⟩
  | 2, _ => exact ⟨fun h => by simp at h, fun _ => ⟨fun h => by simp at h, fun _ => ⟨fun _ => .inl ⟨_, given_ok sInt [] (by decide), .inl ⟨_, given_ok sL [.con sInt] (by decide), rfl⟩⟩, fun h => by simp at h⟩⟩⟩
  | 3, _ => exact ⟨fun h => by simp at h, fun _ => ⟨fun h => by simp at h, fun _ => ⟨fun h => by simp at h, fun _ => ⟨fun _ => .inl ⟨_, given_ok sT [] (by decide), rfl⟩, fun h => by simp at h⟩⟩⟩⟩
  | 4, _ => exact ⟨fun h => by simp at h, fun _ => ⟨fun h => by simp at h, fun _ => ⟨fun h => by simp at h, fun _ => ⟨fun h => by simp at h, fun _ => .inl ⟨_, given_ok sBool [] (by decide), .inl ⟨_, given_ok sL [.con sBool] (by decide), rfl⟩⟩⟩⟩⟩⟩
  | n + 5, h => omega

def eFs (l : List (ByteArray × List Nat)) : List AV := l.map fun p => .sl (eIs (p.2.map Int.ofNat))
theorem worldFields_ok (t : Nat) (ht : 0 < t ∧ t < 5) : ACall Try.prog n_fugueref14_WorldFields [.lit (.int .i64 (t : Nat))] (.tup [.sl (eSs ((wCons t).map (·.1))), .sl (eFs (wCons t))]) := by
  refine acall_of_wc ttok mixed Try.func36 rfl (by rfl) (Nat.le_of_ble_eq_true rfl) (by kernel_rfl) ?_
  match t, ht with
  | 0, h => omega
  | 1, _ => exact ⟨fun _ => rfl, fun h => by simp at h⟩
  | 2, _ => exact ⟨fun h => by simp at h, fun _ => ⟨fun _ => rfl, fun h => by simp at h⟩⟩
  | 3, _ => exact ⟨fun h => by simp at h, fun _ => ⟨fun h => by simp at h, fun _ => ⟨fun _ => rfl, fun h => by simp at h⟩⟩⟩
  | 4, _ => exact ⟨fun h => by simp at h, fun _ => ⟨fun h => by simp at h, fun _ => ⟨fun h => by simp at h, fun _ => ⟨fun _ => rfl, fun h => by simp at h⟩⟩⟩⟩
  | n + 5, h => omega
end Go.Proofs.Ytefdahofpjmnfaa
