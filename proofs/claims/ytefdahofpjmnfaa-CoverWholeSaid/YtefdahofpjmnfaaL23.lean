/- The program's constructors and integers of a column; what takes patterns apart. No condition. -/
import Derived.Test.YtefdahofpjmnfaaL22
set_option linter.unusedSimpArgs false
set_option linter.unusedVariables false
namespace Go.Proofs.Ytefdahofpjmnfaa
open Go Fp
set_option maxRecDepth 10000
set_option maxHeartbeats 16000000

theorem keys_at : ∀ p ∈ atT.map eAt, keyLike (.lit (.string .empty)) p.1 := fun p hp => by
  obtain ⟨y, _, rfl⟩ := List.mem_map.1 hp; trivial
theorem found_at {j : Nat} {q : ByteArray × Nat × Nat} (h : atT[j]? = some q) : Fp.Found (atT.map eAt) (.string q.1) (some (j, (eAt q).2)) := by
  refine .yes j _ ?_ (fun i hi p hp => ?_)
  · rw [List.getElem?_map, h]; rfl
  · rw [List.getElem?_map] at hp
    cases hy : atT[i]? with
    | none => rw [hy] at hp; simp at hp
    | some y =>
      rw [hy] at hp; simp at hp; subst hp
      have := not_in_take atT_nodup h y (by rw [List.mem_iff_getElem?]; exact ⟨i, by rw [List.getElem?_take, if_pos hi]; exact hy⟩)
      intro e
      have e : AV.lit (.string y.1) = .lit (.string q.1) := e
      injection e with e; injection e with e
      exact this e
theorem atT_lt {j : Nat} {q : ByteArray × Nat × Nat} (h : atT[j]? = some q) : q.2.1 < 5 := by
  have := List.mem_of_getElem? h
  revert this
  have : ∀ x ∈ atT, x.2.1 < 5 := by decide
  exact this q

theorem con_ok {j : Nat} {q : ByteArray × Nat × Nat} (h : atT[j]? = some q) :
    ACall Try.prog n_pats_Cons_Con [cAV, .lit (.string q.1)] (.tup [eD (wTab5[q.2.1]'(atT_lt h)), .lit (.int .i64 (q.2.2 : Nat)), .sb true]) := by
  have hg : (wTab5.map eD)[q.2.1]? = some (eD (wTab5[q.2.1]'(atT_lt h))) := getM (atT_lt h)
  refine acall_of_wcx ttok mixed Try.func67 rfl (by rfl) (Nat.le_of_ble_eq_true rfl) (by kernel_rfl) ?_
  refine ⟨some (j, (eAt q).2), keys_at, trivial, found_at h, ?_⟩
  refine ⟨_, by omega, hg, rfl, ?_⟩
  exact ⟨by decide, rfl⟩

theorem con_of {t : Nat} {s : ByteArray} {fs : List Nat} (h : (s, fs) ∈ wCons t) : ∃ (j : Nat) (q : ByteArray × Nat × Nat), atT[j]? = some q ∧ q.1 = s ∧ ∃ h5 : q.2.1 < 5, (wTab5[q.2.1]'h5).2.2.2.2 = consT t := by
  match t with
  | 0 => simp [wCons] at h
  | 1 => simp [wCons] at h; rcases h with ⟨rfl, rfl⟩ | ⟨rfl, rfl⟩ <;> first | exact ⟨0, _, rfl, rfl, by decide, rfl⟩ | exact ⟨1, _, rfl, rfl, by decide, rfl⟩
  | 2 => simp [wCons] at h; rcases h with ⟨rfl, rfl⟩ | ⟨rfl, rfl⟩ <;> first | exact ⟨2, _, rfl, rfl, by decide, rfl⟩ | exact ⟨3, _, rfl, rfl, by decide, rfl⟩
  | 3 => simp [wCons] at h; rcases h with ⟨rfl, rfl⟩ | ⟨rfl, rfl⟩ | ⟨rfl, rfl⟩ <;> first | exact ⟨4, _, rfl, rfl, by decide, rfl⟩ | exact ⟨5, _, rfl, rfl, by decide, rfl⟩ | exact ⟨6, _, rfl, rfl, by decide, rfl⟩
  | 4 => simp [wCons] at h; rcases h with ⟨rfl, rfl⟩ | ⟨rfl, rfl⟩ <;> first | exact ⟨2, _, rfl, rfl, by decide, rfl⟩ | exact ⟨3, _, rfl, rfl, by decide, rfl⟩
  | n + 5 => simp [wCons] at h

theorem getRw {F : Int} {b : Nat → Int} {l : List Rw} {k : Nat} (h : k < l.length) : (eRws F b l)[k]? = some (eRw F b l[k]) := getM h
theorem lenRw (F : Int) (b : Nat → Int) (l : List Rw) : (eRws F b l).length = l.length := by simp [eRws]

/-- Nothing, or the constructors. -/
def consN : Option (List (ByteArray × List Tp)) → AV
  | some cs => .sl (eCons cs)
  | none => .nil

theorem cons_ok (F : Int) (b : Nat → Int) (l : List Rw) (cs : List Nat) (a t : Nat) (ha : cs[a]? = some t) (hl : ∀ r ∈ l, TyPs cs r.ps) (hcs : cs.length < 10000) (hb : l.length < 10000) :
    ACall Try.prog n_cover_cons [cAV, .sl (eRws F b l), .lit (.int .i64 (a : Nat))] (consN (colCons a l)) := by
  refine acallR_of_wcx ttok mixed Try.func43 rfl (by rfl) (Nat.le_of_ble_eq_true rfl) (by kernel_rfl) ?_
  refine ⟨{k : Nat // k ≤ l.length ∧ ∀ j y, j < k → l[j]? = some y → rowCons a y = none}, fun k => { vs := [(0, .v cAV), (2, sv (a : Nat)), (12, .v (.sl (eRws F b l))), (13, sv (l.length : Nat)), (14, sv (k.1 : Nat))] },
    fun k => l.length - k.1, ⟨0, Nat.zero_le _, fun j y h => by omega⟩, ⟨⟨rfl, rfl, rfl, svc (by rw [lenRw]), rfl, trivial⟩, trivial, rfl⟩, ?_⟩
  rintro ⟨k, hk, hinv⟩
  refine ⟨fun h => ?_, fun h => ?_⟩
  · have h : k < l.length := by have h := of_decide_eq_true h; simp only at h; omega
    obtain ⟨p, hp, ht⟩ := (hl _ (List.getElem_mem h)).get ha
    have hap : a < l[k].ps.length := (List.getElem?_eq_some_iff.1 hp).1
    have hp' : (ePts l[k].ps)[a]? = some (ePt p) := by simp [ePts, hp]
    have hrow : rowCons a l[k] = if p.f = 4 then findCons p.s else none := by unfold rowCons; rw [hp]
    refine ⟨_, by omega, getRw h, rfl, ?_⟩
    refine ⟨_, by omega, hp', rfl, ?_⟩
    by_cases h4 : p.f = 4
    · obtain ⟨fs, hs, _⟩ := ty_con ht h4
      obtain ⟨j, q, hq, hqs, h5, hd⟩ := con_of hs
      have hc := con_ok hq
      rw [hqs] at hc
      refine ⟨fun hbs => ?_, fun hbs => ?_⟩ <;> first | (exfalso; revert hbs; (simp [h4]); done) | skip
      refine ⟨_, by omega, hp', rfl, ?_⟩
      refine .inl ⟨_, hc, ?_⟩
      refine ⟨?_, rfl⟩
      have e : colCons a l = some (consT t) := fs_at (List.getElem?_eq_getElem h) hinv (by rw [hrow, if_pos h4, findCons_eq hs])
      rw [e]
      show AV.sl (eCons (wTab5[q.2.1]'(atT_lt hq)).2.2.2.2) = .sl (eCons (consT t))
      rw [← hd]
    · refine ⟨fun hbs => ?_, fun hbs => ?_⟩ <;> first | (exfalso; revert hbs; (simp [h4]); done) | skip
      refine ⟨⟨k + 1, h, fun j y hj hy => ?_⟩, by simp; omega, ⟨rfl, rfl, rfl, rfl, svc (wrap_succ (k := k) (by omega)), trivial⟩, trivial, rfl⟩
      rcases Nat.lt_or_ge j k with hlt | hge
      · exact hinv j y hlt hy
      · have : j = k := by omega
        subst this
        rw [List.getElem?_eq_getElem h] at hy; injection hy with hy; subst hy
        rw [hrow, if_neg h4]
  · have h : k = l.length := by have h := of_decide_eq_false h; simp only at h; omega
    refine ⟨?_, rfl⟩
    have : colCons a l = none := fs_none (fun j y hj hy => hinv j y (by omega) hy)
    rw [this]
    exact rfl

theorem index_ok (l : List Int) (x : Int) (hl : l.length < 10000) : ∃ i : Int, ACall Try.prog n_slices_Index_intint [.sl (eIs l), .lit (.int .i64 x)] (.lit (.int .i64 i)) ∧ (0 ≤ i ↔ x ∈ l) := by
  have main : ∀ i : Int, ((∃ k : Nat, i = k ∧ l[k]? = some x ∧ ∀ j y, j < k → l[j]? = some y → y ≠ x) ∨ i = -1 ∧ x ∉ l) → ACall Try.prog n_slices_Index_intint [.sl (eIs l), .lit (.int .i64 x)] (.lit (.int .i64 i)) := fun i hi => by
    refine acall_of_wcx ttok mixed Try.func76 rfl (by rfl) (Nat.le_of_ble_eq_true rfl) (by kernel_rfl) ?_
    refine ⟨{k : Nat // k ≤ l.length ∧ ∀ j y, j < k → l[j]? = some y → y ≠ x}, fun k => { vs := [(0, .v (.sl (eIs l))), (1, sv x), (6, .v (.sl (eIs l))), (7, sv (l.length : Nat)), (8, sv (k.1 : Nat))] },
      fun k => l.length - k.1, ⟨0, Nat.zero_le _, fun j y h => by omega⟩, ⟨⟨rfl, rfl, rfl, svc (by rw [lenI]), rfl, trivial⟩, trivial, rfl⟩, ?_⟩
    rintro ⟨k, hk, hinv⟩
    refine ⟨fun h => ?_, fun h => ?_⟩
    · have h : k < l.length := by have h := of_decide_eq_true h; simp only at h; omega
      refine ⟨_, by omega, getI h, rfl, ?_⟩
      refine ⟨fun h2 => ?_, fun h2 => ?_⟩
      · have h2 := of_decide_eq_true h2
        have hi' : i = k := by
          rcases hi with ⟨k', rfl, h3, h4⟩ | ⟨_, h3⟩
          · rcases Nat.lt_trichotomy k k' with q | q | q
            · exact absurd h2.symm (h4 k _ q (List.getElem?_eq_getElem h))
            · rw [q]
            · exact absurd rfl (hinv k' x q h3)
          · exact absurd (by rw [h2]; exact List.getElem_mem h) h3
        rw [hi']
        exact rfl
      · have h2 := of_decide_eq_false h2
        refine ⟨⟨k + 1, h, fun j y hj hy => ?_⟩, by simp; omega, ⟨rfl, rfl, rfl, rfl, svc (wrap_succ (k := k) (by omega)), trivial⟩, trivial, rfl⟩
        rcases Nat.lt_or_ge j k with hlt | hge
        · exact hinv j y hlt hy
        · have : j = k := by omega
          subst this
          rw [List.getElem?_eq_getElem h] at hy; injection hy with hy; subst hy
          exact fun e => h2 e.symm
    · have h : k = l.length := by have h := of_decide_eq_false h; simp only at h; omega
      have hi' : i = -1 := by
        rcases hi with ⟨k', rfl, h3, h4⟩ | ⟨h3, _⟩
        · exact absurd rfl (hinv k' x (by have := (List.getElem?_eq_some_iff.1 h3).1; omega) h3)
        · exact h3
      rw [hi']
      exact rfl
  by_cases hx : x ∈ l
  · have : ∃ k : Nat, l[k]? = some x ∧ ∀ j y, j < k → l[j]? = some y → y ≠ x := by
      clear main
      induction l with
      | nil => simp at hx
      | cons z l ih =>
        by_cases hz : z = x
        · exact ⟨0, by simp [hz], fun j y h => by omega⟩
        · have hx' : x ∈ l := by
            rcases List.mem_cons.1 hx with h | h
            · exact absurd h.symm hz
            · exact h
          obtain ⟨k, h1, h2⟩ := ih (by simp at hl; omega) hx'
          refine ⟨k + 1, by simpa using h1, fun j y hj hy => ?_⟩
          match j with
          | 0 => simp at hy; subst hy; exact hz
          | j + 1 => exact h2 j y (by omega) (by simpa using hy)
    obtain ⟨k, h1, h2⟩ := this
    exact ⟨k, main k (.inl ⟨k, rfl, h1, h2⟩), ⟨fun _ => hx, fun _ => by omega⟩⟩
  · exact ⟨-1, main (-1) (.inr ⟨rfl, hx⟩), ⟨fun h => by omega, fun h => absurd h hx⟩⟩

theorem contains_ok (l : List Int) (x : Int) (hl : l.length < 10000) : ACall Try.prog n_slices_Contains_intint [.sl (eIs l), .lit (.int .i64 x)] (.sb (decide (x ∈ l))) := by
  obtain ⟨i, h1, h2⟩ := index_ok l x hl
  refine acall_of_wcx ttok mixed Try.func69 rfl (by rfl) (Nat.le_of_ble_eq_true rfl) (by kernel_rfl) ?_
  refine .inl ⟨_, h1, ?_⟩
  show AV.sb (decide (0 ≤ i)) = _
  by_cases h : x ∈ l
  · simp [h, h2.2 h]
  · simp [h]; have : ¬ 0 ≤ i := fun hh => h (h2.1 hh); omega

theorem ints_ok (F : Int) (b : Nat → Int) (l : List Rw) (a : Nat) (hc : ∀ r ∈ l, colOk a r) (hb : l.length < 10000) :
    ACall Try.prog n_cover_ints [.sl (eRws F b l), .lit (.int .i64 (a : Nat))] (.sl (eIs (intsOf a l))) := by
  refine acall_of_wcx ttok mixed Try.func45 rfl (by rfl) (Nat.le_of_ble_eq_true rfl) (by kernel_rfl) ?_
  refine ⟨{k : Nat // k ≤ l.length}, fun k => { vs := [(1, sv (a : Nat)), (5, .v (.sl (eIs (intsOf a (l.take k.1))))), (9, .v (.sl (eRws F b l))), (10, sv (l.length : Nat)), (11, sv (k.1 : Nat))], ow := [(5, 0, 2)] },
    fun k => l.length - k.1, ⟨0, Nat.zero_le _⟩, ⟨⟨rfl, rfl, rfl, svc (by rw [lenRw]), rfl, trivial⟩, ⟨trivial, trivial⟩, rfl⟩, ?_⟩
  rintro ⟨k, hk⟩
  refine ⟨fun h => ?_, fun h => ?_⟩
  · have h : k < l.length := by have h := of_decide_eq_true h; simp only at h; omega
    obtain ⟨p, p1, p2, p3, p4, p5⟩ := hc _ (List.getElem_mem h)
    have ha : a < l[k].ps.length := (List.getElem?_eq_some_iff.1 p1).1
    have hp' : (ePts l[k].ps)[a]? = some (ePt p) := by simp [ePts, p1]
    have hst : intsOf a (l.take (k + 1)) = intStep a (intsOf a (l.take k)) l[k] := by unfold intsOf; rw [List.take_succ_eq_append_getElem h, List.foldl_append]; rfl
    have hle : (intsOf a (l.take k)).length ≤ k := by have := ints_le a (l.take k) []; simp at this; exact Nat.le_trans this (by omega)
    generalize intsOf a (l.take k) = out at hst hle
    have hlen : (eIs out).length = out.length := by simp [eIs]
    have hstep : intStep a out l[k] = if p.f = 3 ∧ p.n ∉ out then out ++ [p.n] else out := by unfold intStep; rw [p1]
    have idx : SV.v (AV.lit (Value.int .i64 (IntKind.i64.wrap ((k : Int) + 1)))) = SV.v (AV.lit (Value.int .i64 ((k + 1 : Nat) : Int))) := svc (wrap_succ (k := k) (by omega))
    have hcn := contains_ok out p.n (by omega)
    refine ⟨_, by omega, getRw h, rfl, ?_⟩
    refine ⟨_, by omega, hp', rfl, ?_⟩
    by_cases h3 : p.f = 3
    · refine ⟨fun hbs => ?_, fun hbs => ?_⟩ <;> first | (exfalso; revert hbs; (simp [h3]); done) | skip
      refine .inl ⟨_, hcn, ?_⟩
      by_cases h4 : p.n ∈ out
      · have h4' : decide (p.n ∈ out) = true := decide_eq_true h4
        rw [h4']
        refine ⟨fun hbs => ?_, fun hbs => ?_⟩ <;> first | (exfalso; revert hbs; simp [Kn.form]; done) | skip
        refine ⟨⟨k + 1, h⟩, by simp; omega, ⟨rfl, ?_, rfl, rfl, idx, trivial⟩, ⟨rfl, trivial⟩, rfl⟩
        show _ = SV.v (AV.sl (eIs (intsOf a (l.take (k + 1)))))
        rw [hst, hstep, if_neg (fun h => h.2 h4)]; rfl
      · have h4' : decide (p.n ∈ out) = false := decide_eq_false h4
        rw [h4']
        refine ⟨fun hbs => ?_, fun hbs => ?_⟩ <;> first | (exfalso; revert hbs; simp [Kn.form]; done) | skip
        refine ⟨by rw [hlen]; simp; omega, uniI _, uniI [p.n], ?_⟩
        refine ⟨⟨k + 1, h⟩, by simp; omega, ⟨rfl, ?_, rfl, rfl, idx, trivial⟩, ⟨rfl, trivial⟩, rfl⟩
        show _ = SV.v (AV.sl (eIs (intsOf a (l.take (k + 1)))))
        rw [hst, hstep, if_pos ⟨h3, h4⟩]
        unfold eIs
        rw [List.map_append]; rfl
    · refine ⟨fun hbs => ?_, fun hbs => ?_⟩ <;> first | (exfalso; revert hbs; (simp [h3]); done) | skip
      refine ⟨⟨k + 1, h⟩, by simp; omega, ⟨rfl, ?_, rfl, rfl, idx, trivial⟩, ⟨rfl, trivial⟩, rfl⟩
      show _ = SV.v (AV.sl (eIs (intsOf a (l.take (k + 1)))))
      rw [hst, hstep, if_neg (fun h => h3 h.1)]; rfl
  · have h : k = l.length := by have h := of_decide_eq_false h; simp only at h; omega
    subst h
    show AV.sl (eIs (intsOf a (l.take l.length))) = _
    rw [List.take_length]
end Go.Proofs.Ytefdahofpjmnfaa
