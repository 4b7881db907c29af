/- Values, as they lie in memory; whether a pattern takes one, and which is the first. No condition. -/
import Derived.Test.YtefdahofpjmnfaaK3
set_option linter.unusedSimpArgs false
set_option linter.unusedVariables false
namespace Go.Proofs.Ytefdahofpjmnfaa
open Go Fp
set_option maxRecDepth 10000
set_option maxHeartbeats 16000000

namespace Vl
mutual
def eKids : Vl → List AV
  | mk _ _ _ k => eList k
def eList : List Vl → List AV
  | [] => []
  | v :: r => .agg [.lit (.int .i64 v.f), .lit (.int .i64 v.n), .lit (.string v.s), .sl v.eKids] :: eList r
end
end Vl
def eVl (v : Vl) : AV := .agg [.lit (.int .i64 v.f), .lit (.int .i64 v.n), .lit (.string v.s), .sl v.eKids]
def eVls (l : List Vl) : List AV := l.map eVl
theorem Vl.eList_eq : ∀ l : List Vl, Vl.eList l = eVls l
  | [] => by simp [Vl.eList, eVls]
  | p :: r => by simp [Vl.eList, eVls, eVl, Vl.eList_eq r]
theorem Vl.eKids_eq (v : Vl) : v.eKids = eVls v.k := by cases v; simp [Vl.eKids, Vl.eList_eq, Vl.k]
theorem uniV (l : List Vl) : Uni 4 (eVls l) := uniMap (f := eVl) (n := 4) (fun _ => rfl) l
theorem getV {l : List Vl} {k : Nat} (h : k < l.length) : (eVls l)[k]? = some (eVl l[k]) := getM h
theorem lenV (l : List Vl) : (eVls l).length = l.length := by simp [eVls]

theorem kids_sz (p : Pt) : p.k.length < p.sz := by
  have : ∀ l : List Pt, l.length ≤ szL l := fun l => by
    induction l with
    | nil => simp [szL]
    | cons x l ih => have : 0 < x.sz := by cases x; simp only [Pt.sz]; omega
                     simp only [szL, List.length_cons]; omega
  have h1 := this p.k
  cases p; simp only [Pt.k, Pt.sz] at *; omega

theorem takesL_all : ∀ {ps : List Pt} {vs : List Vl}, ps.length = vs.length → (takesL ps vs = true ↔ ∀ (j : Nat) (h1 : j < ps.length) (h2 : j < vs.length), takes ps[j] vs[j] = true)
  | [], [], _ => ⟨fun _ j h1 => by simp at h1, fun _ => by rw [takesL]⟩
  | p :: ps, v :: vs, h => by
    rw [takesL, Bool.and_eq_true, takesL_all (by simpa using h)]
    refine ⟨fun ⟨a, b⟩ j h1 h2 => ?_, fun a => ⟨a 0 (by simp) (by simp), fun j h1 h2 => a (j + 1) (by simp; omega) (by simp; omega)⟩⟩
    match j with
    | 0 => exact a
    | j + 1 => exact b j (by simpa using h1) (by simpa using h2)
  | [], _ :: _, h => by simp at h
  | _ :: _, [], h => by simp at h

theorem equalFunc_ok (ps : List Pt) (vs : List Vl) (hl : ps.length < 10000) (ht : ∀ p ∈ ps, ∀ v, ACall Try.prog n_cover_Takes [ePt p, eVl v] (.sb (takes p v))) :
    ACall Try.prog n_slices_EqualFunc_apiPatapiValueapiPatapiValue [.sl (ePts ps), .sl (eVls vs), .lit (fnv n_cover_Takes)] (.sb (takesL ps vs)) := by
  have h1 := lenP ps
  have h2 := lenV vs
  refine acall_of_wcx ttok mixed Try.func60 rfl (by rfl) (Nat.le_of_ble_eq_true rfl) (by kernel_rfl) ?_
  by_cases hn : ps.length = vs.length
  · have hne : ((ePts ps).length : Int) = ((eVls vs).length : Int) := by rw [h1, h2, hn]
    refine ⟨fun h => by simp [hne] at h, fun _ => ?_⟩
    refine ⟨{k : Nat // k ≤ ps.length ∧ ∀ (j : Nat) (h1 : j < ps.length) (h2 : j < vs.length), j < k → takes ps[j] vs[j] = true}, fun k => { vs := [(1, .v (.sl (eVls vs))), (2, .v (.lit (fnv n_cover_Takes))), (15, .v (.sl (ePts ps))), (16, sv (ps.length : Nat)), (17, sv (k.1 : Nat))] },
      fun k => ps.length - k.1, ⟨0, Nat.zero_le _, fun j _ _ h => by omega⟩, ⟨⟨rfl, rfl, rfl, svc (by rw [h1]), rfl, trivial⟩, trivial, rfl⟩, ?_⟩
    rintro ⟨k, hk, hinv⟩
    refine ⟨fun h => ?_, fun h => ?_⟩
    · have h : k < ps.length := by have h := of_decide_eq_true h; simp only at h; omega
      have h' : k < vs.length := by omega
      have hc := ht ps[k] (List.getElem_mem h) vs[k]
      refine ⟨_, by omega, getP h, rfl, ?_⟩
      refine ⟨_, by omega, getV h', rfl, ?_⟩
      refine .inl ⟨_, hc, ?_⟩
      cases hx : takes ps[k] vs[k] with
      | false =>
        refine ⟨fun hbs => ?_, fun hbs => ?_⟩ <;> first | (exfalso; revert hbs; simp [Kn.form]; done) | skip
        have e : takesL ps vs = false := by
          cases he : takesL ps vs with
          | false => rfl
          | true => have := (takesL_all hn).1 he k h h'; rw [hx] at this; cases this
        rw [e]; exact rfl
      | true =>
        refine ⟨fun hbs => ?_, fun hbs => ?_⟩ <;> first | (exfalso; revert hbs; simp [Kn.form]; done) | skip
        refine ⟨⟨k + 1, h, fun j hj1 hj2 hj => ?_⟩, by simp; omega, ⟨rfl, rfl, rfl, rfl, svc (wrap_succ (k := k) (by omega)), trivial⟩, trivial, rfl⟩
        rcases Nat.lt_or_ge j k with hlt | hge
        · exact hinv j hj1 hj2 hlt
        · have : j = k := by omega
          subst this; exact hx
    · have h : k = ps.length := by have h := of_decide_eq_false h; simp only at h; omega
      rw [(takesL_all hn).2 (fun j hj1 hj2 => hinv j hj1 hj2 (by omega))]
      exact rfl
  · have hne : ¬ ((ePts ps).length : Int) = ((eVls vs).length : Int) := by rw [h1, h2]; omega
    refine ⟨fun _ => ?_, fun h => by simp [hne] at h⟩
    have e : takesL ps vs = false := by
      cases he : takesL ps vs with
      | false => rfl
      | true => exact absurd (takesL_len he) hn
    rw [e]; exact rfl

theorem Takes_ok : ∀ (n : Nat) (p : Pt) (v : Vl), p.sz ≤ n → n < 10000 → ACall Try.prog n_cover_Takes [ePt p, eVl v] (.sb (takes p v)) := by
  intro n
  induction n with
  | zero => intro p v h; have := kids_sz p; omega
  | succ n ih =>
    intro p v h hn
    have hks := kids_sz p
    have hE := equalFunc_ok p.k v.k (by omega) (fun q hq w => ih q w (by have := sz_kid hq; omega) (by omega))
    rw [← p.eKids_eq, ← v.eKids_eq] at hE
    rw [takes_eq]
    refine acall_of_wcx ttok mixed Try.func39 rfl (by rfl) (Nat.le_of_ble_eq_true rfl) (by kernel_rfl) ?_
    by_cases h1 : p.f = 1
    · refine ⟨fun hbs => ?_, fun hbs => ?_⟩ <;> first | (exfalso; revert hbs; (simp [h1]); done) | skip
      simp only [h1]; exact rfl
    by_cases h2 : p.f = 2
    · refine ⟨fun hbs => ?_, fun hbs => ?_⟩ <;> first | (exfalso; revert hbs; (simp [h1]); done) | skip
      refine ⟨fun hbs => ?_, fun hbs => ?_⟩ <;> first | (exfalso; revert hbs; (simp [h2]); done) | skip
      simp only [h2]; exact rfl
    refine ⟨fun hbs => ?_, fun hbs => ?_⟩ <;> first | (exfalso; revert hbs; (simp [h1]); done) | skip
    refine ⟨fun hbs => ?_, fun hbs => ?_⟩ <;> first | (exfalso; revert hbs; (simp [h2]); done) | skip
    by_cases h3 : p.f = 3
    · refine ⟨fun hbs => ?_, fun hbs => ?_⟩ <;> first | (exfalso; revert hbs; (simp [h3]); done) | skip
      simp only [h3, Int.reduceEq, decide_false, decide_true, Bool.false_or, Bool.true_and, Bool.false_and, Bool.or_false]
      refine ⟨fun h => ?_, fun h => ?_⟩
      · rw [h, Bool.true_and]; exact rfl
      · have h : decide (v.f = 2) = false := h
        rw [h, Bool.false_and]; exact rfl
    refine ⟨fun hbs => ?_, fun hbs => ?_⟩ <;> first | (exfalso; revert hbs; (simp [h3]); done) | skip
    by_cases h4 : p.f = 4
    · refine ⟨fun hbs => ?_, fun hbs => ?_⟩ <;> first | (exfalso; revert hbs; (simp [h4]); done) | skip
      simp only [h4, Int.reduceEq, decide_false, decide_true, Bool.false_or, Bool.true_and, Bool.false_and, Bool.or_false]
      refine ⟨fun h => ?_, fun h => ?_⟩
      · rw [h, Bool.true_and]
        refine ⟨fun h => ?_, fun h => ?_⟩
        · rw [h, Bool.true_and]
          refine .inl ⟨_, hE, ?_⟩
          exact rfl
        · have h : decide (v.s = p.s) = false := h
          rw [h, Bool.false_and]; exact rfl
      · have h : decide (v.f = 1) = false := h
        rw [h, Bool.false_and, Bool.false_and]
        exact rfl
    refine ⟨fun hbs => ?_, fun hbs => ?_⟩ <;> first | (exfalso; revert hbs; (simp [h4]); done) | skip
    simp only [h1, h2, h3, h4, decide_false, Bool.false_or, Bool.false_and]
    exact rfl

theorem First_ok (l : List Pt) (v : Vl) (hl : l.length < 10000) (hs : ∀ p ∈ l, p.sz < 10000) : ACall Try.prog n_cover_First [.sl (ePts l), eVl v] (.lit (.int .i64 (first_place l fun p => takes p v).choose)) := by
  have hi := (first_place l fun p => takes p v).choose_spec.1
  generalize (first_place l fun p => takes p v).choose = i at hi ⊢
  have h38 : ∀ p ∈ l, ACall Try.prog n_cover_First_1 (ePt p :: [.ptr (eVl v).cells]) (.sb (takes p v)) := fun p hp => by
    have := Takes_ok p.sz p v (Nat.le_refl _) (hs p hp)
    refine acall_of_wcx ttok mixed Try.func38 rfl (by rfl) (Nat.le_of_ble_eq_true rfl) (by kernel_rfl) ?_
    exact .inl ⟨_, this, rfl⟩
  have hI : ACall Try.prog n_slices_IndexFunc_apiPatapiPat [.sl (ePts l), .fn (.func n_cover_First_1) [] [.ptr (eVl v).cells]] (.lit (.int .i64 i)) := by
    refine acall_of_wcx ttok mixed Try.func37 rfl (by rfl) (Nat.le_of_ble_eq_true rfl) (by kernel_rfl) ?_
    refine ⟨{k : Nat // k ≤ l.length ∧ ∀ j (hj : j < l.length), j < k → takes l[j] v = false}, fun k => { vs := [(0, .v (.sl (ePts l))), (1, .v (.fn (.func n_cover_First_1) [] [.ptr (eVl v).cells])), (6, .v (.sl (ePts l))), (7, sv (l.length : Nat)), (8, sv (k.1 : Nat))] },
      fun k => l.length - k.1, ⟨0, Nat.zero_le _, fun j hj h => by omega⟩, ⟨⟨rfl, rfl, rfl, svc (by rw [lenP]), rfl, trivial⟩, trivial, rfl⟩, ?_⟩
    rintro ⟨k, hk, hinv⟩
    refine ⟨fun h => ?_, fun h => ?_⟩
    · have h : k < l.length := by have h := of_decide_eq_true h; simp only at h; omega
      have hc := h38 l[k] (List.getElem_mem h)
      refine ⟨_, by omega, getP h, rfl, ?_⟩
      refine .inl ⟨_, hc, ?_⟩
      refine ⟨fun h2 => ?_, fun h2 => ?_⟩
      · have hi' : i = k := by
          rcases hi with ⟨k', rfl, h3, h4, h5⟩ | ⟨_, h3⟩
          · rcases Nat.lt_trichotomy k k' with q | q | q
            · have := h5 k h q; rw [h2] at this; cases this
            · rw [q]
            · have := hinv k' h3 q; rw [h4] at this; cases this
          · have := h3 _ (List.getElem_mem h); rw [h2] at this; cases this
        subst hi'
        exact rfl
      · refine ⟨⟨k + 1, h, fun j hjl hj => ?_⟩, by simp; omega, ⟨rfl, rfl, rfl, rfl, svc (wrap_succ (k := k) (by omega)), trivial⟩, trivial, rfl⟩
        rcases Nat.lt_or_ge j k with hlt | hge
        · exact hinv j hjl hlt
        · have : j = k := by omega
          subst this; exact h2
    · have h : k = l.length := by have h := of_decide_eq_false h; simp only at h; omega
      have hi' : i = -1 := by
        rcases hi with ⟨k', rfl, h3, h4, h5⟩ | ⟨h3, _⟩
        · have := hinv k' h3 (by omega); rw [h4] at this; cases this
        · exact h3
      subst hi'
      exact rfl
  refine acall_of_wcx ttok mixed Try.func20 rfl (by rfl) (Nat.le_of_ble_eq_true rfl) (by kernel_rfl) ?_
  refine .inl ?_
  refine .inl ⟨_, hI, ?_⟩
  exact rfl
end Go.Proofs.Ytefdahofpjmnfaa
