/- The program's rows, taken apart, all of them. No condition. -/
import Derived.Test.YtefdahofpjmnfaaL24
set_option linter.unusedSimpArgs false
set_option linter.unusedVariables false
namespace Go.Proofs.Ytefdahofpjmnfaa
open Go Fp
set_option maxRecDepth 10000
set_option maxHeartbeats 16000000

/-- As 'colOk', and numbers have no parts. -/
theorem some_ok (F : Int) (b : Nat → Int) (K : Kn) (l : List Rw) (a : Nat) (y : ByteArray) (hc : ∀ r ∈ l, colOk a r) (hm : K.many ≤ 2) (hb : l.length < 10000) :
    ACall Try.prog n_cover_some_coverrowcoverrow [.sl (eRws F b l), .fn (.func n_cover_forms_1) [] (forms1A K a y)] (.sl (eRws F b (parts K a y l))) := by
  refine acall_of_wcx ttok mixed Try.func61 rfl (by rfl) (Nat.le_of_ble_eq_true rfl) (by kernel_rfl) ?_
  refine ⟨{k : Nat // k ≤ l.length}, fun k => { vs := [(1, .v (.fn (.func n_cover_forms_1) [] (forms1A K a y))), (5, .v (.sl (eRws F b (parts K a y (l.take k.1))))), (10, .v (.sl (eRws F b l))), (11, sv (l.length : Nat)), (12, sv (k.1 : Nat))], ow := [(5, 0, 13)] },
    fun k => l.length - k.1, ⟨0, Nat.zero_le _⟩, ⟨⟨rfl, rfl, rfl, svc (by rw [lenRw]), rfl, trivial⟩, ⟨trivial, trivial⟩, rfl⟩, ?_⟩
  rintro ⟨k, hk⟩
  refine ⟨fun h => ?_, fun h => ?_⟩
  · have h : k < l.length := by have h := of_decide_eq_true h; simp only at h; omega
    obtain ⟨p, p1, p2, p3, p4, p5⟩ := hc _ (List.getElem_mem h)
    have hq := forms1_ok F b K l[k] a y p1 p3 hm p4 p5
    have hpf := part_form (K := K) (y := y) p1 (fun h3 => by
      rcases p2 with h | h | h | h
      · omega
      · omega
      · exact h.2
      · omega)
    have hs := parts_snoc K a y (l.take k) l[k]
    rw [← List.take_succ_eq_append_getElem h, hpf] at hs
    have hle := parts_le K a y (l.take k)
    have idx : SV.v (AV.lit (Value.int .i64 (IntKind.i64.wrap ((k : Int) + 1)))) = SV.v (AV.lit (Value.int .i64 ((k + 1 : Nat) : Int))) := svc (wrap_succ (k := k) (by omega))
    refine ⟨_, by omega, getRw h, rfl, ?_⟩
    refine .inl ⟨_, hq, ?_⟩
    cases hx : (formR K a y l[k] p).2 with
    | false =>
      rw [hx] at hs
      simp only [Bool.false_eq_true, if_false, List.append_nil] at hs
      refine ⟨fun hbs => ?_, fun hbs => ?_⟩ <;> first | (exfalso; revert hbs; simp [Kn.form]; done) | skip
      refine ⟨⟨k + 1, h⟩, by simp; omega, ⟨rfl, ?_, rfl, rfl, idx, trivial⟩, ⟨rfl, trivial⟩, rfl⟩
      show _ = SV.v (AV.sl (eRws F b (parts K a y (l.take (k + 1)))))
      rw [hs]; rfl
    | true =>
      rw [hx] at hs
      simp only [if_true] at hs
      refine ⟨fun hbs => ?_, fun hbs => ?_⟩ <;> first | (exfalso; revert hbs; simp [Kn.form]; done) | skip
      refine ⟨by rw [lenRw]; simp at hle ⊢; omega, uniRw _ _ _, uniMap (f := eRw F b) (fun _ => rfl) [(formR K a y l[k] p).1], ?_⟩
      refine ⟨⟨k + 1, h⟩, by simp; omega, ⟨rfl, ?_, rfl, rfl, idx, trivial⟩, ⟨rfl, trivial⟩, rfl⟩
      show _ = SV.v (AV.sl (eRws F b (parts K a y (l.take (k + 1)))))
      rw [hs]; unfold eRws; rw [List.map_append]; rfl
  · have h : k = l.length := by have h := of_decide_eq_false h; simp only at h; omega
    subst h
    show AV.sl (eRws F b (parts K a y (l.take l.length))) = _
    rw [List.take_length]

theorem forms_ok (F : Int) (b : Nat → Int) (K : Kn) (l : List Rw) (a : Nat) (y : ByteArray) (hc : ∀ r ∈ l, colOk a r) (hm : K.many ≤ 2) (hb : l.length < 10000) :
    ACall Try.prog n_cover_forms [.sl (eRws F b l), .lit (.int .i64 (a : Nat)), .lit (.int .i64 (K.many : Nat)), afn K, .lit (.string y)] (.sl (eRws F b (parts K a y l))) := by
  have hs := some_ok F b K l a y hc hm hb
  refine acall_of_wcx ttok mixed Try.func41 rfl (by rfl) (Nat.le_of_ble_eq_true rfl) (by kernel_rfl) ?_
  cases K with
  | con s n =>
    refine .inl ?_
    refine .inl ⟨_, hs, ?_⟩
    exact rfl
  | int x =>
    refine .inl ?_
    refine .inl ⟨_, hs, ?_⟩
    exact rfl
  | none =>
    refine .inl ?_
    refine .inl ⟨_, hs, ?_⟩
    exact rfl
end Go.Proofs.Ytefdahofpjmnfaa
