/- The program's 'missing'. No condition. -/
import Derived.Test.YtefdahofpjmnfaaL25
set_option linter.unusedSimpArgs false
set_option linter.unusedVariables false
namespace Go.Proofs.Ytefdahofpjmnfaa
open Go Fp
set_option maxRecDepth 10000
set_option maxHeartbeats 16000000

theorem max_ok (l : List Int) (hne : l ≠ []) (h0 : ∀ x ∈ l, 0 ≤ x) (hl : l.length < 10000) : ACall Try.prog n_slices_Max_intint [.sl (eIs l)] (.lit (.int .i64 (l.foldl max 0))) := by
  have hpos : 0 < l.length := List.length_pos_iff.2 hne
  have hll := lenI l
  refine acall_of_wcx ttok mixed Try.func46 rfl (by rfl) (Nat.le_of_ble_eq_true rfl) (by kernel_rfl) ?_
  refine ⟨fun h => ?_, fun _ => ?_⟩
  · have h := of_decide_eq_true h; rw [hll] at h; omega
  refine ⟨_, by omega, getI hpos, rfl, ?_⟩
  refine ⟨{k : Nat // 1 ≤ k ∧ k ≤ l.length}, fun k => { vs := [(0, .v (.sl (eIs l))), (3, sv ((l.take k.1).foldl max 0)), (4, sv (k.1 : Nat))] },
    fun k => l.length - k.1, ⟨1, Nat.le_refl _, hpos⟩, ⟨⟨rfl, svc ?_, rfl, trivial⟩, trivial, rfl⟩, ?_⟩
  · cases l with
    | nil => simp at hpos
    | cons x l => have := h0 x (by simp); simp; omega
  rintro ⟨k, hk1, hk⟩
  refine ⟨fun h => ?_, fun h => ?_⟩
  · have h : k < l.length := by have h := of_decide_eq_true h; rw [hll] at h; simp only at h; omega
    refine ⟨_, by omega, getI h, rfl, ?_⟩
    refine ⟨⟨k + 1, by omega, h⟩, by simp; omega, ⟨rfl, svc ?_, svc (wrap_succ (k := k) (by omega)), trivial⟩, trivial, rfl⟩
    rw [List.take_succ_eq_append_getElem h, max_snoc]
    simp only
    split <;> omega
  · have h : k = l.length := by have h := of_decide_eq_false h; rw [hll] at h; simp only at h; omega
    subst h
    show AV.lit (.int .i64 ((l.take l.length).foldl max 0)) = _
    rw [List.take_length]

theorem consT_pos {t : Nat} (h0 : 0 < t) (h5 : t < 5) : ∃ q qs, consT t = q :: qs := by
  match t, h0, h5 with
  | 1, _, _ | 2, _, _ | 3, _, _ | 4, _, _ => exact ⟨_, _, rfl⟩
  | n + 5, _, h => omega

theorem conTup' (s : ByteArray) (L K : List AV) (A B : List Pt) (h : L = ePts A) (k : K = ePts B) : AV.tup [.sl ([aPt 4 0 s L .no []] ++ K), .sb true] = missOr (some (conP s A :: B)) := by
  rw [h, k, conP_e]; rfl

theorem missing_ok (F : Int) (b : Nat → Int) : ∀ (n : Nat) (l : List Rw) (cs : List Nat), RowsTy cs n l →
    ACall Try.prog n_cover_missing [cAV, .sl (eRws F b l), .lit (.int .i64 (cs.length : Nat))] (missOr (miss n l cs.length)) := by
  intro n
  induction n with
  | zero => intro l cs h; have := h.fuel; omega
  | succ n ih =>
    intro l cs h
    cases cs with
    | nil =>
      refine acall_of_wcx ttok mixed Try.func23 rfl (by rfl) (Nat.le_of_ble_eq_true rfl) (by kernel_rfl) ?_
      refine ⟨fun _ => ?_, fun h => by simp at h⟩
      refine ⟨by kernel_rfl, ?_⟩
      cases l with
      | nil => exact rfl
      | cons r l => exact (congrArg (fun b => AV.tup [.sl [], .sb b]) (show decide ((((eRws F b (r :: l)).length : Nat) : Int) = 0) = false by simp [eRws]; omega))
    | cons t cs =>
      have hcap := h.cap
      have hcl : cs.length < 10000 := by have := h.fuel; simp at this; omega
      have wc : IntKind.i64.wrap (((cs.length + 1 : Nat) : Int) - 1) = (cs.length : Int) := wrap_pred (by omega)
      have hC := cons_ok F b l (t :: cs) 0 t rfl h.tys (by simp; have := h.fuel; simp at this; omega) h.len
      have rest : ACall Try.prog n_cover_missing_1 [.ptr [cAV], .ptr [.sl (eRws F b l)], .ptr [.lit (.int .i64 ((cs.length + 1 : Nat) : Int))]] (missOr (miss n (parts .none 0 .empty l) cs.length)) := by
        have hf := forms_ok F b .none l 0 .empty h.ok (by simp [Kn.many]) h.len
        have hrec := ih (parts .none 0 .empty l) cs h.none
        rw [← wc] at hrec
        refine acall_of_wcx ttok mixed Try.func40 rfl (by rfl) (Nat.le_of_ble_eq_true rfl) (by kernel_rfl) ?_
        refine .inl ⟨_, hf, ?_⟩
        refine .inl ⟨_, hrec, ?_⟩
        cases miss n (parts .none 0 .empty l) cs.length <;> exact ⟨by kernel_rfl, rfl⟩
      rcases colCons_ty (a := 0) (t := t) rfl h.tys with ⟨hno, hn4⟩ | ⟨hks, ht0, ht5, h4⟩
      · rw [hno] at hC
        have hm : miss (n + 1) l (t :: cs).length = match miss n (parts .none 0 .empty l) cs.length with
            | some m => some (ownOf (intsOf 0 l) :: m)
            | none => (intsOf 0 l).findSome? fun x => (miss n (parts (.int x) 0 .empty l) cs.length).map fun m => intP x :: m := by
          simp only [List.length_cons, miss, hno]
          rfl
        rw [hm]
        have hI := ints_ok F b l 0 h.ok h.len
        have hmem : ∀ x ∈ intsOf 0 l, t = 0 ∧ 0 ≤ x ∧ x < 1000 := ints_mem (a := 0) (t := t) rfl h.tys (fun x hx => by simp at hx)
        have hil : (intsOf 0 l).length < 10000 := by have := ints_le 0 l []; have := h.len; unfold intsOf; simp at *; omega
        have hpar := fun (x : Int) => forms_ok F b (.int x) l 0 .empty h.ok (by simp [Kn.many]) h.len
        have hrx : ∀ x ∈ intsOf 0 l, ACall Try.prog n_cover_missing _ _ := fun x hx => ih (parts (.int x) 0 .empty l) cs (h.int (hmem x hx).1)
        have hMx := max_ok (intsOf 0 l)
        have hmb := max_bd (intsOf 0 l) 0 (fun x hx => (hmem x hx).2.2) (by decide) (by decide)
        have hml0 := miss_len n (parts .none 0 .empty l) cs.length
        generalize intsOf 0 l = is at *
        generalize miss n (parts .none 0 .empty l) cs.length = mm at rest hml0 ⊢
        obtain ⟨R, hR⟩ : ∃ R, R = (match mm with
            | some m => some (ownOf is :: m)
            | none => is.findSome? fun x => (miss n (parts (.int x) 0 .empty l) cs.length).map fun m => intP x :: m) := ⟨_, rfl⟩
        rw [← hR]
        -- behind the first question
        have tail : Wsem Try.prog (sndC (sndC (sndC (sndC (sndC (sndC (sndC (bodyC Try.f23)))))))) (mkC { vs := [(3, .v (.ptr [cAV])), (4, .v (.ptr [.sl (eRws F b l)])), (5, .v (.ptr [.lit (.int .i64 ((cs.length + 1 : Nat) : Int))])), (8, .v (.fn (.func n_cover_missing_1) [] [.ptr [cAV], .ptr [.sl (eRws F b l)], .ptr [.lit (.int .i64 ((cs.length + 1 : Nat) : Int))]])), (16, .box 0 (ePt (ownOf is))), (17, .v (.sl (eIs is)))] })
            (fun c => RetP tt Try.f23.results.toList (missOr R) (den c)) (fun _ _ => False)
            (fun c => RetP tt Try.f23.results.toList (missOr R) (den c)) := by
          refine Wsem.of ttok mixed ?_
          refine .inl ⟨_, rest, ?_⟩
          cases mm with
          | some m =>
            simp only at hR
            subst hR
            have hml := hml0 m rfl
            refine ⟨fun hbs => ?_, fun hbs => ?_⟩ <;> first | (exfalso; revert hbs; simp [Kn.form]; done) | skip
            refine ⟨by simp [ePts]; omega, uni1 rfl, uniP _, ?_⟩
            exact ownTup _ _ _ rfl
          | none =>
            simp only at hR
            refine ⟨fun hbs => ?_, fun hbs => ?_⟩ <;> first | (exfalso; revert hbs; simp [Kn.form]; done) | skip
            refine ⟨{i : Nat // i ≤ is.length ∧ ∀ j x, j < i → is[j]? = some x → (miss n (parts (.int x) 0 .empty l) cs.length).map (fun m => intP x :: m) = none},
              fun i => { vs := [(3, .v (.ptr [cAV])), (4, .v (.ptr [.sl (eRws F b l)])), (5, .v (.ptr [.lit (.int .i64 ((cs.length + 1 : Nat) : Int))])), (94, .v (.sl (eIs is))), (95, sv (is.length : Nat)), (96, sv (i.1 : Nat))] },
              fun i => is.length - i.1, ⟨0, Nat.zero_le _, fun j y h => by omega⟩, ⟨⟨rfl, rfl, rfl, rfl, svc (by rw [lenI]), rfl, trivial⟩, trivial, rfl⟩, ?_⟩
            rintro ⟨k, hk, hinv⟩
            refine ⟨fun h2 => ?_, fun h2 => ?_⟩
            · have h2 : k < is.length := by have h2 := of_decide_eq_true h2; simp only at h2; omega
              have hq := List.getElem?_eq_getElem h2
              have hA := hpar is[k]
              have hO := ofInt_ok is[k]
              have hRc := hrx is[k] (List.getElem_mem h2)
              rw [← wc] at hRc
              refine ⟨_, by omega, getI h2, rfl, ?_⟩
              refine .inl ⟨_, hO, ?_⟩
              refine .inl ⟨_, hA, ?_⟩
              refine .inl ⟨_, hRc, ?_⟩
              cases hy : miss n (parts (.int is[k]) 0 .empty l) cs.length with
              | some m =>
                have hml := miss_len _ _ _ _ hy
                refine ⟨by kernel_rfl, ?_⟩
                refine ⟨fun hbs => ?_, fun hbs => ?_⟩ <;> first | (exfalso; revert hbs; simp [Kn.form]; done) | skip
                refine ⟨by simp [ePts]; omega, uni1 rfl, uniP _, ?_⟩
                have hR2 : R = some (intP is[k] :: m) := by rw [hR, fs_at hq hinv (b := intP is[k] :: m) (by rw [hy]; rfl)]
                subst hR2
                exact ownTup (intP is[k]) _ _ rfl
              | none =>
                refine ⟨by kernel_rfl, ?_⟩
                refine ⟨fun hbs => ?_, fun hbs => ?_⟩ <;> first | (exfalso; revert hbs; simp [Kn.form]; done) | skip
                refine ⟨⟨k + 1, h2, fun j y hj hyy => ?_⟩, by simp; omega, ⟨rfl, rfl, rfl, rfl, rfl, svc (wrap_succ (k := k) (by omega)), trivial⟩, trivial, rfl⟩
                rcases Nat.lt_or_ge j k with hlt | hge
                · exact hinv j y hlt hyy
                · have : j = k := by omega
                  subst this
                  rw [hq] at hyy; injection hyy with hyy; subst hyy
                  rw [hy]; rfl
            · have h2 : k = is.length := by have h2 := of_decide_eq_false h2; simp only at h2; omega
              have hR2 : R = none := by rw [hR]; exact fs_none (fun j y hj hy => hinv j y (by omega) hy)
              subst hR2
              exact rfl
        refine acall_of_wsem ttok mixed Try.func23 rfl (by rfl) (Nat.le_of_ble_eq_true rfl) (by kernel_rfl) ?_
        refine Wsem.seq ttok mixed ?_
        refine Wsem.seq ttok mixed ?_
        refine ⟨fun h => by simp at h; omega, fun _ => ?_⟩
        refine Wsem.seq ttok mixed ?_
        refine .inl ?_
        refine Wsem.seq ttok mixed ?_
        refine .inl ⟨_, hC, ?_⟩
        refine Wsem.seq ttok mixed ?_
        refine Wsem.seq ttok mixed ?_
        refine .inl ⟨_, hI, ?_⟩
        refine Wsem.seq ttok mixed ?_
        by_cases hi0 : is = []
        · have e : ownOf is = wildP := if_pos hi0
          refine ⟨fun hbs => ?_, fun hbs => ?_⟩ <;> first | (exfalso; revert hbs; (simp [hi0, eIs]); done) | skip
          refine Wsem.cut _ ?_ tail
          refine ⟨⟨rfl, rfl, rfl, rfl, ?_, rfl, trivial⟩, trivial, rfl⟩
          rw [e]; exact rfl
        · have e : ownOf is = intP (is.foldl max 0 + 1) := if_neg hi0
          have hlp : 0 < (eIs is).length := by rw [lenI]; exact List.length_pos_iff.2 hi0
          have hM := hMx hi0 (fun x hx => (hmem x hx).2.1) hil
          have wm : IntKind.i64.wrap (is.foldl max 0 + 1) = is.foldl max 0 + 1 := wrap_in (by unfold InR; omega)
          refine ⟨fun _ => ?_, fun h => ?_⟩
          · refine .inl ⟨_, hM, ?_⟩
            refine Wsem.cut _ ?_ tail
            refine ⟨⟨rfl, rfl, rfl, rfl, ?_, rfl, trivial⟩, trivial, rfl⟩
            rw [e]
            show SV.box 0 (aPt 3 (IntKind.i64.wrap (is.foldl max 0 + 1)) .empty [] .no []) = _
            rw [wm]; exact rfl
          · have h := of_decide_eq_false h; omega
      · rw [hks] at hC
        have hm : miss (n + 1) l (t :: cs).length = (consT t).findSome? fun q => (miss n (parts (.con q.1 q.2.length) 0 .empty l) (q.2.length + cs.length)).map fun m => conP q.1 (m.take q.2.length) :: m.drop q.2.length := by
          simp only [List.length_cons, miss, hks]
        rw [hm]
        have h3 := consT_len t
        obtain ⟨q0, qs, hqq⟩ := consT_pos ht0 ht5
        have hat : ∀ q ∈ consT t, ∃ fs, (q.1, fs) ∈ wCons t ∧ fs.length = q.2.length := fun q hq => consT_at hq
        rw [hqq] at hC h3 hat ⊢
        obtain ⟨R, hR⟩ : ∃ R, R = ((q0 :: qs).findSome? fun q => (miss n (parts (.con q.1 q.2.length) 0 .empty l) (q.2.length + cs.length)).map fun m => conP q.1 (m.take q.2.length) :: m.drop q.2.length) := ⟨_, rfl⟩
        rw [← hR]
        refine acall_of_wcx ttok mixed Try.func23 rfl (by rfl) (Nat.le_of_ble_eq_true rfl) (by kernel_rfl) ?_
        refine ⟨fun h => by simp at h; omega, fun _ => ?_⟩
        refine .inl ?_
        refine .inl ⟨_, hC, ?_⟩
        refine ⟨{i : Nat // i ≤ (q0 :: qs).length ∧ ∀ j q, j < i → (q0 :: qs)[j]? = some q → (miss n (parts (.con q.1 q.2.length) 0 .empty l) (q.2.length + cs.length)).map (fun m => conP q.1 (m.take q.2.length) :: m.drop q.2.length) = none},
          fun i => { vs := [(3, .v (.ptr [cAV])), (4, .v (.ptr [.sl (eRws F b l)])), (5, .v (.ptr [.lit (.int .i64 ((cs.length + 1 : Nat) : Int))])), (35, .v (.sl (eCons (q0 :: qs)))), (36, sv ((q0 :: qs).length : Nat)), (37, sv (i.1 : Nat))] },
          fun i => (q0 :: qs).length - i.1, ⟨0, Nat.zero_le _, fun j y h => by omega⟩, ⟨⟨rfl, rfl, rfl, rfl, svc (by rw [lenC]), rfl, trivial⟩, trivial, rfl⟩, ?_⟩
        rintro ⟨i, hi, hinv⟩
        refine ⟨fun h1 => ?_, fun h1 => ?_⟩
        · have h1 : i < (q0 :: qs).length := by have h1 := of_decide_eq_true h1; simp only at h1; omega
          obtain ⟨fs, hfs, hfl⟩ := hat _ (List.getElem_mem h1)
          have hq := List.getElem?_eq_getElem h1
          have hg : (eCons (q0 :: qs))[i]? = some (eCon (q0 :: qs)[i]) := getM h1
          generalize (q0 :: qs)[i] = q at hfs hfl hq hg
          have hf2 : fs.length ≤ 2 := (wCons_fs hfs).1
          have hrec := ih (parts (.con q.1 fs.length) 0 .empty l) (fs ++ cs) (h.con hfs h4)
          have hA := forms_ok F b (.con q.1 fs.length) l 0 .empty h.ok (by simp [Kn.many]; exact hf2) h.len
          have hO := ofCon_ok q.1 fs.length
          have el : ((fs.length : Nat) : Int) = ((eTys q.2).length : Nat) := by rw [lenT, hfl]
          have ec : IntKind.i64.wrap (IntKind.i64.wrap (((eTys q.2).length : Nat) + ((cs.length + 1 : Nat) : Int)) - 1) = (((fs ++ cs).length : Nat) : Int) := by
            rw [← el, show ((fs.length : Nat) : Int) + ((cs.length + 1 : Nat) : Int) = ((fs.length + cs.length + 1 : Nat) : Int) by omega, wrap_nat (by omega), wrap_pred (by omega), List.length_append]
          rw [show ((Kn.many (.con q.1 fs.length) : Nat) : Int) = ((eTys q.2).length : Nat) from el] at hA
          rw [← ec] at hrec
          refine ⟨_, by omega, hg, rfl, ?_⟩
          refine .inl ⟨_, hO, ?_⟩
          refine .inl ⟨_, hA, ?_⟩
          refine .inl ⟨_, hrec, ?_⟩
          rw [List.length_append]
          cases hx : miss n (parts (.con q.1 fs.length) 0 .empty l) (fs.length + cs.length) with
          | none =>
            refine ⟨by kernel_rfl, ?_⟩
            refine ⟨fun hbs => ?_, fun hbs => ?_⟩ <;> first | (exfalso; revert hbs; simp [Kn.form]; done) | skip
            refine ⟨⟨i + 1, h1, fun j y hj hy => ?_⟩, (by show (q0 :: qs).length - (i + 1) < (q0 :: qs).length - i; omega), ⟨rfl, rfl, rfl, rfl, rfl, svc (wrap_succ (k := i) (by omega)), trivial⟩, trivial, rfl⟩
            rcases Nat.lt_or_ge j i with hlt | hge
            · exact hinv j y hlt hy
            · have : j = i := by omega
              subst this
              rw [hq] at hy; injection hy with hy; subst hy
              rw [← hfl, hx]; rfl
          | some m =>
            have hml := miss_len _ _ _ _ hx
            have hpm := lenP m
            refine ⟨by kernel_rfl, ?_⟩
            refine ⟨fun hbs => ?_, fun hbs => ?_⟩ <;> first | (exfalso; revert hbs; simp [Kn.form]; done) | skip
            have e1 : List.drop (Int.toNat 0) (List.take (Int.toNat ((eTys q.2).length : Nat)) (ePts m)) = ePts (m.take q.2.length) := by rw [← hfl, ← el]; simp [ePts]
            have e2 : List.drop (Int.toNat ((eTys q.2).length : Nat)) (List.take (Int.toNat (((ePts m).length : Nat) : Int)) (ePts m)) = ePts (m.drop q.2.length) := by rw [← el, hfl, Int.toNat_natCast, Int.toNat_natCast, List.take_length]; simp [ePts]
            refine ⟨by decide, by omega, by rw [hpm]; omega, rfl, .inl rfl, ?_⟩
            refine ⟨by kernel_rfl, ?_⟩
            refine ⟨by omega, by rw [hpm]; omega, Int.le_refl _, .inr (uniP _), ?_⟩
            refine ⟨by rw [e2]; simp [ePts]; omega, uni1 rfl, by rw [e2]; exact uniP _, ?_⟩
            refine ⟨by kernel_rfl, ?_⟩
            have hR2 : R = some (conP q.1 (m.take q.2.length) :: m.drop q.2.length) := by rw [hR, fs_at hq hinv (b := conP q.1 (m.take q.2.length) :: m.drop q.2.length) (by rw [← hfl, hx]; rfl)]
            subst hR2
            exact conTup' q.1 _ _ _ _ e1 e2
        · have h1 : i = (q0 :: qs).length := by have h1 := of_decide_eq_false h1; simp only at h1; omega
          have hR2 : R = none := by rw [hR]; exact fs_none (fun j y hj hy => hinv j y (by omega) hy)
          subst hR2
          exact rfl
end Go.Proofs.Ytefdahofpjmnfaa
