/- A part of the proof of a given statement: contracts of functions of the program, under no condition but those that each states. -/
import Derived.Test.YtefdahofpjmnfaaL8
set_option linter.unusedSimpArgs false
set_option linter.unusedVariables false
namespace Go.Proofs.Ytefdahofpjmnfaa
open Go Fp
set_option maxRecDepth 10000
set_option maxHeartbeats 8000000

theorem fs_at {α β : Type} {f : α → Option β} {b : β} : ∀ {l : List α} {k : Nat} {x : α}, l[k]? = some x → (∀ j y, j < k → l[j]? = some y → f y = none) → f x = some b → l.findSome? f = some b
  | [], k, x, h, _, _ => by simp at h
  | y :: l, 0, x, h, _, h2 => by simp at h; subst h; simp [List.findSome?, h2]
  | y :: l, k + 1, x, h, h1, h2 => by
    have h0 := h1 0 y (by omega) rfl
    simp only [List.findSome?, h0]
    exact fs_at (k := k) (by simpa using h) (fun j z hj hz => h1 (j + 1) z (by omega) (by simpa using hz)) h2
theorem fs_none {α β : Type} {f : α → Option β} {l : List α} (h : ∀ j y, j < l.length → l[j]? = some y → f y = none) : l.findSome? f = none := by
  rw [List.findSome?_eq_none_iff]
  intro x hx
  obtain ⟨j, hj⟩ := List.getElem?_of_mem hx
  exact h j x (List.getElem?_eq_some_iff.1 hj).1 hj

abbrev DT := ByteArray × Int × List ByteArray × List AV × List (ByteArray × List Tp)
def eD (q : DT) : AV := eData q.1 q.2.1 q.2.2.1 q.2.2.2.1 q.2.2.2.2
def wTab : List DT := [(sBool, 0, [], [], wsBool), (sL, 1, [sa], [.agg [.sl []]], wsL), (sT, 2, [], [], wsT)]
def hasCon (s : ByteArray) (q : DT) : Option (List (ByteArray × List Tp)) := if ∃ c ∈ q.2.2.2.2, c.1 = s then some q.2.2.2.2 else none
def findCons (s : ByteArray) : Option (List (ByteArray × List Tp)) := wTab.findSome? (hasCon s)
def rowCons (a : Nat) (r : Rw) : Option (List (ByteArray × List Tp)) := match r.ps[a]? with
  | some p => if p.f = 4 then findCons p.s else none
  | none => none
def colCons (a : Nat) (l : List Rw) : Option (List (ByteArray × List Tp)) := l.findSome? (rowCons a)
def consOr : Option (List (ByteArray × List Tp)) → AV
  | some cs => .tup [.sl (eCons cs), .sb true]
  | none => .tup [.sl [], .sb false]

theorem Cons_ok (l : List Rw) (a : Nat) (hc : ∀ r ∈ l, colOk a r) (hb : l.length < 10000) :
    ACall Try.prog n_fugueref20_Cons [.sl (wTab.map eD), .sl (eRrs l), .lit (.int .i64 (a : Nat))] (consOr (colCons a l)) := by
  refine acall_of_wc ttok mixed Try.func51 rfl (by rfl) (Nat.le_of_ble_eq_true rfl) (by kernel_rfl) ?_
  have hD : wTab.length = 3 := rfl
  refine ⟨{k : Nat // k ≤ l.length ∧ ∀ j y, j < k → l[j]? = some y → rowCons a y = none}, fun k => { vs := [(0, .v (.sl (wTab.map eD))), (1, .v (.sl (eRrs l))), (2, .v (.lit (.int .i64 (a : Nat)))), (8, .v (.lit (.int .i64 (k.1 : Nat))))] },
    fun k => l.length - k.1, ⟨0, Nat.zero_le _, fun j y h => by omega⟩, ⟨⟨rfl, rfl, rfl, rfl, trivial⟩, trivial, rfl⟩, ?_⟩
  rintro ⟨k, hk, hinv⟩
  refine ⟨fun h => ?_, fun h => ?_⟩
  · have h : k < l.length := by have h := of_decide_eq_true h; simp [eRrs] at h; omega
    obtain ⟨p, p1, p2, p3, p4, p5⟩ := hc _ (List.getElem_mem h)
    have ha : a < l[k].ps.length := (List.getElem?_eq_some_iff.1 p1).1
    have hp' : (ePts l[k].ps)[a]? = some (ePt p) := by simp [ePts, p1]
    have hrow : rowCons a l[k] = if p.f = 4 then findCons p.s else none := by unfold rowCons; rw [p1]
    have next : rowCons a l[k] = none → ∀ j y, j < k + 1 → l[j]? = some y → rowCons a y = none := fun hn j y hj hy => by
      rcases Nat.lt_or_ge j k with hlt | hge
      · exact hinv j y hlt hy
      · have : j = k := by omega
        subst this
        rw [List.getElem?_eq_getElem h] at hy; injection hy with hy; subst hy; exact hn
    refine ⟨_, by omega, getRr h, rfl, ?_⟩
    refine ⟨_, by omega, hp', rfl, ?_⟩
    refine ⟨{d : Nat // d ≤ 3 ∧ ∀ j y, j < d → wTab[j]? = some y → hasCon p.s y = none}, fun d => { vs := [(0, .v (.sl (wTab.map eD))), (1, .v (.sl (eRrs l))), (2, .v (.lit (.int .i64 (a : Nat)))), (8, .v (.lit (.int .i64 (k : Nat)))), (9, .box 0 (ePt p)), (10, .v (.lit (.int .i64 (d.1 : Nat))))] },
      fun d => 3 - d.1, ⟨0, Nat.zero_le _, fun j y h => by omega⟩, ⟨⟨rfl, rfl, rfl, rfl, rfl, rfl, trivial⟩, trivial, rfl⟩, ?_⟩
    rintro ⟨d, hd, hdinv⟩
    refine ⟨fun h1 => ?_, fun h1 => ?_⟩
    · have h1 : d < 3 := by have h1 := of_decide_eq_true h1; simp [wTab] at h1; omega
      have hgd : (wTab.map eD)[d]? = some (eD wTab[d]) := getM (by rw [hD]; exact h1)
      have hsm : wTab[d].2.2.2.2.length ≤ 3 := by
        match d, h1 with
        | 0, _ => exact Nat.le_of_ble_eq_true rfl
        | 1, _ => exact Nat.le_of_ble_eq_true rfl
        | 2, _ => exact Nat.le_of_ble_eq_true rfl
        | d + 3, h => omega
      refine ⟨fun h4 => ?_, fun h4 => ?_⟩
      · have h4 : p.f = 4 := of_decide_eq_true h4
        refine ⟨{i : Nat // i ≤ wTab[d].2.2.2.2.length ∧ ∀ j c, j < i → wTab[d].2.2.2.2[j]? = some c → c.1 ≠ p.s}, fun i => { vs := [(0, .v (.sl (wTab.map eD))), (1, .v (.sl (eRrs l))), (2, .v (.lit (.int .i64 (a : Nat)))), (8, .v (.lit (.int .i64 (k : Nat)))), (9, .box 0 (ePt p)), (10, .v (.lit (.int .i64 (d : Nat)))), (11, .v (.lit (.int .i64 (i.1 : Nat))))] },
          fun i => wTab[d].2.2.2.2.length - i.1, ⟨0, Nat.zero_le _, fun j y h => by omega⟩, ⟨⟨rfl, rfl, rfl, rfl, rfl, rfl, rfl, trivial⟩, trivial, rfl⟩, ?_⟩
        rintro ⟨i, hi, hiinv⟩
        refine ⟨_, by omega, hgd, rfl, ?_⟩
        refine ⟨fun h2 => ?_, fun h2 => ?_⟩
        · have h2 : i < wTab[d].2.2.2.2.length := by have h2 := of_decide_eq_true h2; simp only [eCons, List.length_map] at h2; omega
          refine ⟨_, by omega, hgd, rfl, ?_⟩
          refine ⟨_, by omega, getM (f := eCon) h2, rfl, ?_⟩
          refine ⟨fun h3 => ?_, fun h3 => ?_⟩
          · have h3 : wTab[d].2.2.2.2[i].1 = p.s := of_decide_eq_true h3
            refine ⟨_, by omega, hgd, rfl, ?_⟩
            have e1 : hasCon p.s wTab[d] = some wTab[d].2.2.2.2 := if_pos ⟨_, List.getElem_mem h2, h3⟩
            have e2 : findCons p.s = some wTab[d].2.2.2.2 := fs_at (List.getElem?_eq_getElem (by rw [hD]; exact h1)) hdinv e1
            have e3 : colCons a l = some wTab[d].2.2.2.2 := fs_at (List.getElem?_eq_getElem h) hinv (by rw [hrow, if_pos h4, e2])
            rw [e3]
            exact rfl
          · have h3 : wTab[d].2.2.2.2[i].1 ≠ p.s := of_decide_eq_false h3
            refine ⟨⟨i + 1, h2, fun j c hj hcj => ?_⟩, by simp; omega, ⟨rfl, rfl, rfl, rfl, rfl, rfl, congrArg (fun l => SV.v (AV.lit (Value.int .i64 l))) (wrap_succ (k := i) (by omega)), trivial⟩, trivial, rfl⟩
            rcases Nat.lt_or_ge j i with hlt | hge
            · exact hiinv j c hlt hcj
            · have : j = i := by omega
              subst this
              rw [List.getElem?_eq_getElem h2] at hcj; injection hcj with hcj; subst hcj; exact h3
        · have h2 : i = wTab[d].2.2.2.2.length := by have h2 := of_decide_eq_false h2; simp only [eCons, List.length_map] at h2; omega
          refine ⟨⟨d + 1, h1, fun j y hj hy => ?_⟩, by simp; omega, ⟨rfl, rfl, rfl, rfl, rfl, congrArg (fun l => SV.v (AV.lit (Value.int .i64 l))) (wrap_succ (k := d) (by omega)), trivial⟩, trivial, rfl⟩
          rcases Nat.lt_or_ge j d with hlt | hge
          · exact hdinv j y hlt hy
          · have : j = d := by omega
            subst this
            rw [List.getElem?_eq_getElem (by rw [hD]; exact h1)] at hy; injection hy with hy; subst hy
            refine if_neg ?_
            rintro ⟨c, hcm, hcs⟩
            obtain ⟨q, hq⟩ := List.getElem?_of_mem hcm
            exact hiinv q c (by have := (List.getElem?_eq_some_iff.1 hq).1; omega) hq hcs
      · have h4 : p.f ≠ 4 := of_decide_eq_false h4
        exact ⟨⟨k + 1, h, next (by rw [hrow, if_neg h4])⟩, by simp; omega, ⟨rfl, rfl, rfl, congrArg (fun l => SV.v (AV.lit (Value.int .i64 l))) (wrap_succ (k := k) (by omega)), trivial⟩, trivial, rfl⟩
    · have h1 : d = 3 := by have h1 := of_decide_eq_false h1; simp [wTab] at h1; omega
      have e2 : findCons p.s = none := fs_none (fun j y hj hy => hdinv j y (by rw [h1]; exact hj) hy)
      refine ⟨⟨k + 1, h, next (by rw [hrow, e2]; split <;> rfl)⟩, by simp; omega, ⟨rfl, rfl, rfl, congrArg (fun l => SV.v (AV.lit (Value.int .i64 l))) (wrap_succ (k := k) (by omega)), trivial⟩, trivial, rfl⟩
  · have h : k = l.length := by have h := of_decide_eq_false h; simp [eRrs] at h; omega
    have e3 : colCons a l = none := fs_none (fun j y hj hy => hinv j y (by omega) hy)
    rw [e3]
    exact rfl
end Go.Proofs.Ytefdahofpjmnfaa
