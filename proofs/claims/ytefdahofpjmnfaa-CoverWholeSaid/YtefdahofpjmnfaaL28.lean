/- The program's 'useful'. No condition. -/
import Derived.Test.YtefdahofpjmnfaaL27
set_option linter.unusedSimpArgs false
set_option linter.unusedVariables false
namespace Go.Proofs.Ytefdahofpjmnfaa
open Go Fp
set_option maxRecDepth 10000
set_option maxHeartbeats 16000000

/-- The first of a list of which something holds; its place, or -1. -/
theorem first_place {α : Type} (l : List α) (g : α → Bool) : ∃ i : Int, ((∃ k : Nat, i = k ∧ ∃ h : k < l.length, g l[k] = true ∧ ∀ j (hj : j < l.length), j < k → g l[j] = false) ∨ (i = -1 ∧ ∀ x ∈ l, g x = false)) ∧ decide (0 ≤ i) = l.any g := by
  induction l with
  | nil => exact ⟨-1, .inr ⟨rfl, by simp⟩, rfl⟩
  | cons x l ih =>
    cases hx : g x with
    | true => exact ⟨0, .inl ⟨0, rfl, by simp, hx, fun j hj h => by omega⟩, by simp [hx]⟩
    | false =>
      obtain ⟨i, h1, h2⟩ := ih
      rcases h1 with ⟨k, rfl, h, hk, hj⟩ | ⟨rfl, h1⟩
      · refine ⟨((k + 1 : Nat) : Int), .inl ⟨k + 1, rfl, by simp; omega, by simpa using hk, fun j hjl hjk => ?_⟩, ?_⟩
        · match j with
          | 0 => exact hx
          | j + 1 => simpa using hj j (by simpa using hjl) (by omega)
        · rw [List.any_cons, hx, Bool.false_or, ← h2]
          simp; omega
      · refine ⟨-1, .inr ⟨rfl, fun y hy => ?_⟩, by rw [List.any_cons, hx, Bool.false_or, ← h2]⟩
        rcases List.mem_cons.1 hy with rfl | hy
        · exact hx
        · exact h1 y hy

theorem containsCon_ok (l : List (ByteArray × List Tp)) (f : Nat) (caps : List AV) (g : ByteArray × List Tp → Bool) (hl : l.length < 10000) (hg : ∀ q ∈ l, ACall Try.prog f (eCon q :: caps) (.sb (g q))) :
    ACall Try.prog n_slices_ContainsFunc_apiConapiCon [.sl (eCons l), .fn (.func f) [] caps] (.sb (l.any g)) := by
  obtain ⟨i, hi, hd⟩ := first_place l g
  have hI : ACall Try.prog n_slices_IndexFunc_apiConapiCon [.sl (eCons l), .fn (.func f) [] caps] (.lit (.int .i64 i)) := by
    refine acall_of_wcx ttok mixed Try.func72 rfl (by rfl) (Nat.le_of_ble_eq_true rfl) (by kernel_rfl) ?_
    refine ⟨{k : Nat // k ≤ l.length ∧ ∀ j (hj : j < l.length), j < k → g l[j] = false}, fun k => { vs := [(0, .v (.sl (eCons l))), (1, .v (.fn (.func f) [] caps)), (6, .v (.sl (eCons l))), (7, sv (l.length : Nat)), (8, sv (k.1 : Nat))] },
      fun k => l.length - k.1, ⟨0, Nat.zero_le _, fun j hj h => by omega⟩, ⟨⟨rfl, rfl, rfl, svc (by rw [lenC]), rfl, trivial⟩, trivial, rfl⟩, ?_⟩
    rintro ⟨k, hk, hinv⟩
    refine ⟨fun h => ?_, fun h => ?_⟩
    · have h : k < l.length := by have h := of_decide_eq_true h; simp only at h; omega
      have hge : (eCons l)[k]? = some (eCon l[k]) := getM h
      have hc := hg l[k] (List.getElem_mem h)
      refine ⟨_, by omega, hge, rfl, ?_⟩
      refine .inl ⟨_, hc, ?_⟩
      refine ⟨fun h2 => ?_, fun h2 => ?_⟩
      · have hi' : i = k := by
          rcases hi with ⟨k', rfl, h3, h4, h5⟩ | ⟨_, h3⟩
          · rcases Nat.lt_trichotomy k k' with q | q | q
            · have := h5 k h q; rw [h2] at this; cases this
            · rw [q]
            · have := hinv k' h3 q; rw [h4] at this; cases this
          · have := h3 _ (List.getElem_mem h); rw [h2] at this; cases this
        subst hi'
        exact rfl
      · refine ⟨⟨k + 1, h, fun j hjl hj => ?_⟩, by simp; omega, ⟨rfl, rfl, rfl, rfl, svc (wrap_succ (k := k) (by omega)), trivial⟩, trivial, rfl⟩
        rcases Nat.lt_or_ge j k with hlt | hge
        · exact hinv j hjl hlt
        · have : j = k := by omega
          subst this; exact h2
    · have h : k = l.length := by have h := of_decide_eq_false h; simp only at h; omega
      have hi' : i = -1 := by
        rcases hi with ⟨k', rfl, h3, h4, h5⟩ | ⟨h3, _⟩
        · have := hinv k' h3 (by omega); rw [h4] at this; cases this
        · exact h3
      subst hi'
      exact rfl
  rw [← hd]
  refine acall_of_wcx ttok mixed Try.func55 rfl (by rfl) (Nat.le_of_ble_eq_true rfl) (by kernel_rfl) ?_
  exact .inl ⟨_, hI, rfl⟩

theorem containsInt_ok (l : List Int) (f : Nat) (caps : List AV) (g : Int → Bool) (hl : l.length < 10000) (hg : ∀ q ∈ l, ACall Try.prog f (.lit (.int .i64 q) :: caps) (.sb (g q))) :
    ACall Try.prog n_slices_ContainsFunc_intint [.sl (eIs l), .fn (.func f) [] caps] (.sb (l.any g)) := by
  obtain ⟨i, hi, hd⟩ := first_place l g
  have hI : ACall Try.prog n_slices_IndexFunc_intint [.sl (eIs l), .fn (.func f) [] caps] (.lit (.int .i64 i)) := by
    refine acall_of_wcx ttok mixed Try.func73 rfl (by rfl) (Nat.le_of_ble_eq_true rfl) (by kernel_rfl) ?_
    refine ⟨{k : Nat // k ≤ l.length ∧ ∀ j (hj : j < l.length), j < k → g l[j] = false}, fun k => { vs := [(0, .v (.sl (eIs l))), (1, .v (.fn (.func f) [] caps)), (6, .v (.sl (eIs l))), (7, sv (l.length : Nat)), (8, sv (k.1 : Nat))] },
      fun k => l.length - k.1, ⟨0, Nat.zero_le _, fun j hj h => by omega⟩, ⟨⟨rfl, rfl, rfl, svc (by rw [lenI]), rfl, trivial⟩, trivial, rfl⟩, ?_⟩
    rintro ⟨k, hk, hinv⟩
    refine ⟨fun h => ?_, fun h => ?_⟩
    · have h : k < l.length := by have h := of_decide_eq_true h; simp only at h; omega
      have hc := hg l[k] (List.getElem_mem h)
      refine ⟨_, by omega, getI h, rfl, ?_⟩
      refine .inl ⟨_, hc, ?_⟩
      refine ⟨fun h2 => ?_, fun h2 => ?_⟩
      · have hi' : i = k := by
          rcases hi with ⟨k', rfl, h3, h4, h5⟩ | ⟨_, h3⟩
          · rcases Nat.lt_trichotomy k k' with q | q | q
            · have := h5 k h q; rw [h2] at this; cases this
            · rw [q]
            · have := hinv k' h3 q; rw [h4] at this; cases this
          · have := h3 _ (List.getElem_mem h); rw [h2] at this; cases this
        subst hi'
        exact rfl
      · refine ⟨⟨k + 1, h, fun j hjl hj => ?_⟩, by simp; omega, ⟨rfl, rfl, rfl, rfl, svc (wrap_succ (k := k) (by omega)), trivial⟩, trivial, rfl⟩
        rcases Nat.lt_or_ge j k with hlt | hge
        · exact hinv j hjl hlt
        · have : j = k := by omega
          subst this; exact h2
    · have h : k = l.length := by have h := of_decide_eq_false h; simp only at h; omega
      have hi' : i = -1 := by
        rcases hi with ⟨k', rfl, h3, h4, h5⟩ | ⟨h3, _⟩
        · have := hinv k' h3 (by omega); rw [h4] at this; cases this
        · exact h3
      subst hi'
      exact rfl
  rw [← hd]
  refine acall_of_wcx ttok mixed Try.func57 rfl (by rfl) (Nat.le_of_ble_eq_true rfl) (by kernel_rfl) ?_
  exact .inl ⟨_, hI, rfl⟩

abbrev wCaps (F : Int) (b : Nat → Int) (l : List Rw) (r : Rw) : List AV := [.ptr (eRw F b r).cells, .ptr [cAV], .ptr [.sl (eRws F b l)]]
abbrev wFn (F : Int) (b : Nat → Int) (l : List Rw) (r : Rw) : AV := .fn (.func n_cover_useful_1) [] (wCaps F b l r)

theorem within_ok (F : Int) (b : Nat → Int) {n : Nat} {l : List Rw} {r : Rw} {K : Kn} (hm : K.many ≤ 2) (hc : colOk 0 r) (hl : ∀ r ∈ l, colOk 0 r) (hll : l.length < 10000)
    (hN : ∀ x, part K 0 .empty r = some x → ACall Try.prog n_cover_useful [cAV, .sl (eRws F b (parts K 0 .empty l)), eRw F b x] (.sb (fresh n (parts K 0 .empty l) x))) :
    ACall Try.prog n_cover_useful_1 ([.lit (.int .i64 (K.many : Nat)), afn K] ++ wCaps F b l r) (.sb (withinP n l r K)) := by
  have h1 := forms_ok F b K [r] 0 .empty (fun q hq => by simp at hq; subst hq; exact hc) hm (by simp)
  have h2 := forms_ok F b K l 0 .empty hl hm hll
  have e1 : parts K 0 .empty [r] = match part K 0 .empty r with | some x => [x] | none => [] := by
    unfold parts
    cases hp : part K 0 .empty r with
    | none => rw [List.filterMap_cons_none hp]; rfl
    | some x => rw [List.filterMap_cons_some hp]; rfl
  rw [e1] at h1
  unfold withinP
  refine acall_of_wcx ttok mixed Try.func54 rfl (by rfl) (Nat.le_of_ble_eq_true rfl) (by kernel_rfl) ?_
  generalize hpp : part K 0 .empty r = pp at h1 hN ⊢
  cases K with
  | con s m =>
    cases pp with
    | none =>
      refine .inl ⟨_, h1, ?_⟩
      refine ⟨fun hbs => ?_, fun hbs => ?_⟩ <;> first | (exfalso; revert hbs; (simp [eRws]); done) | skip
      exact ⟨by kernel_rfl, rfl⟩
    | some x =>
      have h3 := hN x rfl
      refine .inl ⟨_, h1, ?_⟩
      refine ⟨fun hbs => ?_, fun hbs => ?_⟩ <;> first | (exfalso; revert hbs; (simp [eRws]); done) | skip
      refine .inl ⟨_, h2, ?_⟩
      refine ⟨eRw F b x, by omega, rfl, rfl, ?_⟩
      refine .inl ⟨_, h3, ?_⟩
      exact ⟨by kernel_rfl, rfl⟩
  | int z =>
    cases pp with
    | none =>
      refine .inl ⟨_, h1, ?_⟩
      refine ⟨fun hbs => ?_, fun hbs => ?_⟩ <;> first | (exfalso; revert hbs; (simp [eRws]); done) | skip
      exact ⟨by kernel_rfl, rfl⟩
    | some x =>
      have h3 := hN x rfl
      refine .inl ⟨_, h1, ?_⟩
      refine ⟨fun hbs => ?_, fun hbs => ?_⟩ <;> first | (exfalso; revert hbs; (simp [eRws]); done) | skip
      refine .inl ⟨_, h2, ?_⟩
      refine ⟨eRw F b x, by omega, rfl, rfl, ?_⟩
      refine .inl ⟨_, h3, ?_⟩
      exact ⟨by kernel_rfl, rfl⟩
  | none =>
    cases pp with
    | none =>
      refine .inl ⟨_, h1, ?_⟩
      refine ⟨fun hbs => ?_, fun hbs => ?_⟩ <;> first | (exfalso; revert hbs; (simp [eRws]); done) | skip
      exact ⟨by kernel_rfl, rfl⟩
    | some x =>
      have h3 := hN x rfl
      refine .inl ⟨_, h1, ?_⟩
      refine ⟨fun hbs => ?_, fun hbs => ?_⟩ <;> first | (exfalso; revert hbs; (simp [eRws]); done) | skip
      refine .inl ⟨_, h2, ?_⟩
      refine ⟨eRw F b x, by omega, rfl, rfl, ?_⟩
      refine .inl ⟨_, h3, ?_⟩
      exact ⟨by kernel_rfl, rfl⟩
end Go.Proofs.Ytefdahofpjmnfaa
