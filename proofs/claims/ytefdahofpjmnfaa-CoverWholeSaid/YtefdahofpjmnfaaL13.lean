/- A part of the proof of a given statement: contracts of functions of the program, under no condition but those that each states. -/
import Derived.Test.YtefdahofpjmnfaaL12
set_option linter.unusedSimpArgs false
set_option linter.unusedVariables false
namespace Go.Proofs.Ytefdahofpjmnfaa
open Go Fp
set_option maxRecDepth 10000
set_option maxHeartbeats 16000000

abbrev sv (n : Int) : SV := .v (.lit (.int .i64 n))
theorem svc {n m : Int} (h : n = m) : SV.v (AV.lit (Value.int .i64 n)) = SV.v (AV.lit (Value.int .i64 m)) := by rw [h]
theorem lenI (l : List Int) : (eIs l).length = l.length := by simp [eIs]
theorem lenC (l : List (ByteArray × List Tp)) : (eCons l).length = l.length := by simp [eCons]
theorem lenT (l : List Tp) : (eTys l).length = l.length := by simp [eTys]
theorem conP_e (s : ByteArray) (m : List Pt) : aPt 4 0 s (ePts m) .no [] = ePt (conP s m) := aPt_eq 4 0 s m .no []

theorem conTup (s : ByteArray) (L K : List AV) (A B : List Pt) (h : L = ePts A) (k : K = ePts B) : AV.tup [.sl ([aPt 4 0 s ([] ++ L) .no []] ++ K), .sb true] = missOr (some (conP s A :: B)) := by
  rw [h, k, List.nil_append, conP_e]; rfl
theorem ownTup (p : Pt) (K : List AV) (B : List Pt) (k : K = ePts B) : AV.tup [.sl ([ePt p] ++ K), .sb true] = missOr (some (p :: B)) := by
  rw [k]; rfl

theorem missing20_ok : ∀ (n : Nat) (l : List Rw) (cs : List Nat), RowsTy cs n l →
    ACall Try.prog n_fugueref20_missing [.sl (wTab.map eD), .sl (eRrs l), .lit (.int .i64 (cs.length : Nat))] (missOr (miss n l cs.length)) := by
  intro n
  induction n with
  | zero => intro l cs h; have := h.fuel; omega
  | succ n ih =>
    intro l cs h
    refine acall_of_wc ttok mixed Try.func28 rfl (by rfl) (Nat.le_of_ble_eq_true rfl) (by kernel_rfl) ?_
    cases cs with
    | nil =>
      refine ⟨fun _ => ?_, fun h => by simp at h⟩
      cases l with
      | nil => exact rfl
      | cons r l => exact (congrArg (fun b => AV.tup [.sl [], .sb b]) (show decide ((((eRrs (r :: l)).length : Nat) : Int) = 0) = false by simp [eRrs]; omega))
    | cons t cs =>
      have hcap := h.cap
      have hcl : cs.length < 10000 := by have := h.fuel; simp at this; omega
      have wc : IntKind.i64.wrap (((cs.length + 1 : Nat) : Int) - 1) = (cs.length : Int) := wrap_pred (by omega)
      refine ⟨fun h => by simp at h; omega, fun _ => ?_⟩
      have hC := Cons_ok l 0 h.ok h.len
      rcases colCons_ty (a := 0) (t := t) rfl h.tys with ⟨hno, hn4⟩ | ⟨hks, ht0, ht5, h4⟩
      · rw [hno] at hC
        have hm : miss (n + 1) l (t :: cs).length = match miss n (parts .none 0 .empty l) cs.length with
            | some m => some (ownOf (intsOf 0 l) :: m)
            | none => (intsOf 0 l).findSome? fun x => (miss n (parts (.int x) 0 .empty l) cs.length).map fun m => intP x :: m := by
          simp only [List.length_cons, miss, hno]
          rfl
        rw [hm]
        have hI := Ints_ok l 0 h.ok h.len
        have hmem : ∀ x ∈ intsOf 0 l, t = 0 ∧ 0 ≤ x ∧ x < 1000 := ints_mem (a := 0) (t := t) rfl h.tys (fun x hx => by simp at hx)
        have hil : (intsOf 0 l).length < 10000 := by have := ints_le 0 l []; have := h.len; unfold intsOf; simp at *; omega
        have hN := Apart_ok .none l 0 .empty h.ok (by simp [Kn.many]) h.len
        have hrec := ih (parts .none 0 .empty l) cs h.none
        have hpar : ∀ x ∈ intsOf 0 l, ACall Try.prog n_fugueref20_Apart _ _ := fun x _ => Apart_ok (.int x) l 0 .empty h.ok (by simp [Kn.many]) h.len
        have hrx : ∀ x ∈ intsOf 0 l, ACall Try.prog n_fugueref20_missing _ _ := fun x hx => ih (parts (.int x) 0 .empty l) cs (h.int (hmem x hx).1)
        rw [← wc] at hrec
        generalize intsOf 0 l = is at *
        refine .inl ⟨_, hC, ?_⟩
        refine ⟨Unit, fun _ => { vs := [(0, .v (.sl (wTab.map eD))), (1, .v (.sl (eRrs l))), (2, sv ((cs.length + 1 : Nat) : Int)), (8, .v (.sl [])), (9, .v (.sb false)), (10, sv 0)] }, fun _ => 0, (), ⟨⟨rfl, rfl, rfl, rfl, rfl, rfl, trivial⟩, trivial, rfl⟩, ?_⟩
        rintro ⟨⟩
        refine ⟨fun hbs => ?_, fun hbs => ?_⟩ <;> first | (exfalso; revert hbs; simp [Kn.form]; done) | skip
        refine ⟨fun hbs => ?_, fun hbs => ?_⟩ <;> first | (exfalso; revert hbs; simp [Kn.form]; done) | skip
        refine .inl ⟨_, hI, ?_⟩
        refine ⟨{i : Nat // i ≤ is.length}, fun i => { vs := [(0, .v (.sl (wTab.map eD))), (1, .v (.sl (eRrs l))), (2, sv ((cs.length + 1 : Nat) : Int)), (15, .v (.sl (eIs is))), (16, .box 0 (ePt (ownOf (is.take i.1)))), (17, sv (i.1 : Nat))] },
          fun i => is.length - i.1, ⟨0, Nat.zero_le _⟩, ⟨⟨rfl, rfl, rfl, rfl, rfl, rfl, trivial⟩, trivial, rfl⟩, ?_⟩
        rintro ⟨i, hi⟩
        refine ⟨fun h1 => ?_, fun h1 => ?_⟩
        · have h1 : i < is.length := by have h1 := of_decide_eq_true h1; simp only [lenI] at h1; omega
          have hx := (hmem is[i] (List.getElem_mem h1)).2
          have hbd := max_bd (is.take i) 0 (fun x hx => (hmem x (List.mem_of_mem_take hx)).2.2) (by decide) (by decide)
          have hnx : ownOf (is.take (i + 1)) = intP (max ((is.take i).foldl max 0) is[i] + 1) := by
            unfold ownOf
            rw [List.take_succ_eq_append_getElem h1, if_neg (fun h => by have := congrArg List.length h; rw [List.length_append, List.length_nil, List.length_singleton] at this; omega), max_snoc]
          have wx : IntKind.i64.wrap (is[i] + 1) = is[i] + 1 := wrap_in (by unfold InR; omega)
          have fin : ∀ k : Int, k = max ((is.take i).foldl max 0) is[i] + 1 → SV.box 0 (aPt 3 k .empty [] .no []) = SV.box 0 (ePt (ownOf (is.take (i + 1)))) := fun k hk => by rw [hnx, hk]; rfl
          by_cases h0 : i = 0
          · subst h0
            refine ⟨fun hbs => ?_, fun hbs => ?_⟩ <;> first | (exfalso; revert hbs; (simp [ownOf, wildP, Pt.f]); done) | skip
            refine ⟨_, by omega, getI h1, rfl, ?_⟩
            refine ⟨⟨0 + 1, h1⟩, by simp; omega, ⟨rfl, rfl, rfl, rfl, fin _ ?_, svc (wrap_succ (k := 0) (by omega)), trivial⟩, trivial, rfl⟩
            rw [wx, List.take_zero, List.foldl_nil]; omega
          · have e0 : ownOf (is.take i) = intP ((is.take i).foldl max 0 + 1) := if_neg (by intro h; have := congrArg List.length h; rw [List.length_take, List.length_nil] at this; omega)
            have e1 : (ownOf (is.take i)).f = 3 := by rw [e0]; rfl
            have e2 : (ownOf (is.take i)).n = (is.take i).foldl max 0 + 1 := by rw [e0]; rfl
            refine ⟨fun hbs => ?_, fun hbs => ?_⟩ <;> first | (exfalso; revert hbs; (simp [e1]); done) | skip
            refine ⟨_, by omega, getI h1, rfl, ?_⟩
            refine ⟨fun h2 => ?_, fun h2 => ?_⟩
            · have h2 := of_decide_eq_true h2
              simp only [e2] at h2
              refine ⟨_, by omega, getI h1, rfl, ?_⟩
              refine ⟨⟨i + 1, h1⟩, by simp; omega, ⟨rfl, rfl, rfl, rfl, fin _ ?_, svc (wrap_succ (k := i) (by omega)), trivial⟩, trivial, rfl⟩
              rw [wx]; omega
            · have h2 := of_decide_eq_false h2
              simp only [e2] at h2
              refine ⟨⟨i + 1, h1⟩, by simp; omega, ⟨rfl, rfl, rfl, rfl, ?_, svc (wrap_succ (k := i) (by omega)), trivial⟩, trivial, rfl⟩
              have : max ((is.take i).foldl max 0) is[i] = (is.take i).foldl max 0 := by omega
              show SV.box _ (ePt (ownOf (is.take i))) = SV.box _ (ePt (ownOf (is.take (i + 1))))
              rw [hnx, this, e0]
        · have h1 : i = is.length := by have h1 := of_decide_eq_false h1; simp only [lenI] at h1; omega
          refine .inl ⟨_, hN, ?_⟩
          refine .inl ⟨_, hrec, ?_⟩
          cases hx : miss n (parts .none 0 .empty l) cs.length with
          | some m =>
            have hml := miss_len _ _ _ _ hx
            refine ⟨fun hbs => ?_, fun hbs => ?_⟩ <;> first | (exfalso; revert hbs; simp [Kn.form]; done) | skip
            refine ⟨by simp [ePts]; omega, uni1 rfl, uniP _, ?_⟩
            subst h1
            rw [List.take_length]
            exact ownTup _ _ _ rfl
          | none =>
            refine ⟨fun hbs => ?_, fun hbs => ?_⟩ <;> first | (exfalso; revert hbs; simp [Kn.form]; done) | skip
            refine ⟨{i : Nat // i ≤ is.length ∧ ∀ j x, j < i → is[j]? = some x → (miss n (parts (.int x) 0 .empty l) cs.length).map (fun m => intP x :: m) = none},
              fun i => { vs := [(0, .v (.sl (wTab.map eD))), (1, .v (.sl (eRrs l))), (2, sv ((cs.length + 1 : Nat) : Int)), (15, .v (.sl (eIs is))), (20, sv (i.1 : Nat))] },
              fun i => is.length - i.1, ⟨0, Nat.zero_le _, fun j y h => by omega⟩, ⟨⟨rfl, rfl, rfl, rfl, rfl, trivial⟩, trivial, rfl⟩, ?_⟩
            rintro ⟨k, hk, hinv⟩
            refine ⟨fun h2 => ?_, fun h2 => ?_⟩
            · have h2 : k < is.length := by have h2 := of_decide_eq_true h2; simp only [lenI] at h2; omega
              have hq := List.getElem?_eq_getElem h2
              have hA := hpar is[k] (List.getElem_mem h2)
              have hR := hrx is[k] (List.getElem_mem h2)
              rw [← wc] at hR
              refine ⟨_, by omega, getI h2, rfl, ?_⟩
              refine .inl ⟨_, hA, ?_⟩
              refine .inl ⟨_, hR, ?_⟩
              cases hy : miss n (parts (.int is[k]) 0 .empty l) cs.length with
              | some m =>
                have hml := miss_len _ _ _ _ hy
                refine ⟨fun hbs => ?_, fun hbs => ?_⟩ <;> first | (exfalso; revert hbs; simp [Kn.form]; done) | skip
                refine ⟨_, by omega, getI h2, rfl, ?_⟩
                refine ⟨by simp [ePts]; omega, uni1 rfl, uniP _, ?_⟩
                rw [fs_at hq hinv (b := intP is[k] :: m) (by rw [hy]; rfl)]
                exact ownTup (intP is[k]) _ _ rfl
              | none =>
                refine ⟨fun hbs => ?_, fun hbs => ?_⟩ <;> first | (exfalso; revert hbs; simp [Kn.form]; done) | skip
                refine ⟨⟨k + 1, h2, fun j y hj hyy => ?_⟩, by simp; omega, ⟨rfl, rfl, rfl, rfl, svc (wrap_succ (k := k) (by omega)), trivial⟩, trivial, rfl⟩
                rcases Nat.lt_or_ge j k with hlt | hge
                · exact hinv j y hlt hyy
                · have : j = k := by omega
                  subst this
                  rw [hq] at hyy; injection hyy with hyy; subst hyy
                  rw [hy]; rfl
            · have h2 : k = is.length := by have h2 := of_decide_eq_false h2; simp only [lenI] at h2; omega
              rw [fs_none (fun j y hj hy => hinv j y (by omega) hy)]
              exact rfl
      · rw [hks] at hC
        have hm : miss (n + 1) l (t :: cs).length = (consT t).findSome? fun q => (miss n (parts (.con q.1 q.2.length) 0 .empty l) (q.2.length + cs.length)).map fun m => conP q.1 (m.take q.2.length) :: m.drop q.2.length := by
          simp only [List.length_cons, miss, hks]
        rw [hm]
        have h3 := consT_len t
        refine .inl ⟨_, hC, ?_⟩
        refine ⟨{i : Nat // i ≤ (consT t).length ∧ ∀ j q, j < i → (consT t)[j]? = some q → (miss n (parts (.con q.1 q.2.length) 0 .empty l) (q.2.length + cs.length)).map (fun m => conP q.1 (m.take q.2.length) :: m.drop q.2.length) = none},
          fun i => { vs := [(0, .v (.sl (wTab.map eD))), (1, .v (.sl (eRrs l))), (2, sv ((cs.length + 1 : Nat) : Int)), (8, .v (.sl (eCons (consT t)))), (9, .v (.sb true)), (10, sv (i.1 : Nat))] },
          fun i => (consT t).length - i.1, ⟨0, Nat.zero_le _, fun j y h => by omega⟩, ⟨⟨rfl, rfl, rfl, rfl, rfl, rfl, trivial⟩, trivial, rfl⟩, ?_⟩
        rintro ⟨i, hi, hinv⟩
        refine ⟨fun h1 => ?_, fun h1 => ?_⟩
        · have h1 : i < (consT t).length := by have h1 := of_decide_eq_true h1; simp only [lenC] at h1; omega
          obtain ⟨fs, hfs, hfl⟩ := consT_at (List.getElem_mem h1)
          have hq := List.getElem?_eq_getElem h1
          have hg : (eCons (consT t))[i]? = some (eCon (consT t)[i]) := getM h1
          generalize (consT t)[i] = q at hfs hfl hq hg
          have hf2 : fs.length ≤ 2 := (wCons_fs hfs).1
          have hrec := ih (parts (.con q.1 fs.length) 0 .empty l) (fs ++ cs) (h.con hfs h4)
          have hA := Apart_ok (.con q.1 fs.length) l 0 .empty h.ok (by simp [Kn.many]; exact hf2) h.len
          have el : ((fs.length : Nat) : Int) = ((eTys q.2).length : Nat) := by rw [lenT, hfl]
          have ec : IntKind.i64.wrap (IntKind.i64.wrap (((eTys q.2).length : Nat) + ((cs.length + 1 : Nat) : Int)) - 1) = (((fs ++ cs).length : Nat) : Int) := by
            rw [← el, show ((fs.length : Nat) : Int) + ((cs.length + 1 : Nat) : Int) = ((fs.length + cs.length + 1 : Nat) : Int) by omega, wrap_nat (by omega), wrap_pred (by omega), List.length_append]
          rw [show Kn.num (.con q.1 fs.length) = ((eTys q.2).length : Nat) from el] at hA
          rw [← ec] at hrec
          refine ⟨_, by omega, hg, rfl, ?_⟩
          refine ⟨_, by omega, hg, rfl, ?_⟩
          refine .inl ⟨_, hA, ?_⟩
          refine .inl ⟨_, hrec, ?_⟩
          rw [List.length_append]
          cases hx : miss n (parts (.con q.1 fs.length) 0 .empty l) (fs.length + cs.length) with
          | none =>
            refine ⟨fun hbs => ?_, fun hbs => ?_⟩ <;> first | (exfalso; revert hbs; simp [Kn.form]; done) | skip
            refine ⟨⟨i + 1, h1, fun j y hj hy => ?_⟩, by simp; omega, ⟨rfl, rfl, rfl, rfl, rfl, svc (wrap_succ (k := i) (by omega)), trivial⟩, trivial, rfl⟩
            rcases Nat.lt_or_ge j i with hlt | hge
            · exact hinv j y hlt hy
            · have : j = i := by omega
              subst this
              rw [hq] at hy; injection hy with hy; subst hy
              rw [← hfl, hx]; rfl
          | some m =>
            have hml := miss_len _ _ _ _ hx
            have hpm := lenP m
            refine ⟨fun hbs => ?_, fun hbs => ?_⟩ <;> first | (exfalso; revert hbs; simp [Kn.form]; done) | skip
            refine ⟨_, by omega, hg, rfl, ?_⟩
            have e1 : List.drop (Int.toNat 0) (List.take (Int.toNat ((eTys q.2).length : Nat)) (ePts m)) = ePts (m.take q.2.length) := by rw [← hfl, ← el]; simp [ePts]
            have e2 : List.drop (Int.toNat ((eTys q.2).length : Nat)) (List.take (Int.toNat (((ePts m).length : Nat) : Int)) (ePts m)) = ePts (m.drop q.2.length) := by rw [← el, hfl, Int.toNat_natCast, Int.toNat_natCast, List.take_length]; simp [ePts]
            refine ⟨by decide, by omega, by rw [hpm]; omega, .inl rfl, ?_⟩
            refine ⟨by rw [e1]; simp [ePts]; omega, uni0 _, by rw [e1]; exact uniP _, ?_⟩
            refine ⟨by omega, by rw [hpm]; omega, by rw [hpm]; omega, .inr (uniP _), ?_⟩
            refine ⟨by rw [e2]; simp [ePts]; omega, uni1 rfl, by rw [e2]; exact uniP _, ?_⟩
            rw [fs_at hq hinv (b := conP q.1 (m.take q.2.length) :: m.drop q.2.length) (by rw [← hfl, hx]; rfl)]
            exact conTup q.1 _ _ _ _ e1 e2
        · have h1 : i = (consT t).length := by have h1 := of_decide_eq_false h1; simp only [lenC] at h1; omega
          refine ⟨fun hbs => ?_, fun hbs => ?_⟩ <;> first | (exfalso; revert hbs; simp [Kn.form]; done) | skip
          rw [fs_none (fun j y hj hy => hinv j y (by omega) hy)]
          exact rfl
end Go.Proofs.Ytefdahofpjmnfaa
