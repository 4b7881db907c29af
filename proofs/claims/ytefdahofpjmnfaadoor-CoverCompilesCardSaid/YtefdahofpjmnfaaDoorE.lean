/- The program's rows, taken apart, all of them. No condition. -/
import Derived.Test.YtefdahofpjmnfaaDoorD
set_option linter.unusedSimpArgs false
set_option linter.unusedVariables false
namespace Go.Proofs.YtefdahofpjmnfaaDoor
open Go Fp
set_option maxRecDepth 10000
set_option maxHeartbeats 16000000

/-- As 'colOk', and numbers have no parts. -/
theorem some_ok (F : Int) (b : Nat → Int) (K : Kn) (l : List Rw) (a : Nat) (y : ByteArray) (hc : ∀ r ∈ l, colOk a r) (hm : K.many ≤ 2) (hb : l.length < 10000) :
    ACall Tryd.prog n_cover_some_coverrowcoverrow [.sl (eRws F b l), .fn (.func n_cover_forms_1) [] (forms1A K a y)] (.sl (eRws F b (parts K a y l))) := by
  refine acall_of_wcx ttok mixed Tryd.func65 rfl (by rfl) (Nat.le_of_ble_eq_true rfl) (by kernel_rfl) ?_
  refine ⟨{k : Nat // k ≤ l.length}, fun k => { vs := [(1, .v (.fn (.func n_cover_forms_1) [] (forms1A K a y))), (5, .v (.sl (eRws F b (parts K a y (l.take k.1))))), (10, .v (.sl (eRws F b l))), (11, sv (l.length : Nat)), (12, sv (k.1 : Nat))], ow := [(5, 0, 13)] },
    fun k => l.length - k.1, ⟨0, Nat.zero_le _⟩, ⟨⟨rfl, rfl, rfl, svc (by rw [lenRw]), rfl, trivial⟩, ⟨trivial, trivial⟩, rfl⟩, ?_⟩
  rintro ⟨k, hk⟩
  refine ⟨fun h => ?_, fun h => ?_⟩
  · have h : k < l.length := by have h := of_decide_eq_true h; simp only at h; omega
    obtain ⟨p, p1, p2, p3, p4, p5⟩ := hc _ (List.getElem_mem h)
    have hq := forms1_ok F b K l[k] a y p1 p3 hm p4 p5
    have hpf := part_form (K := K) (y := y) p1 (fun h3 => by
      rcases p2 with h | h | h | h
      · omega
      · omega
      · exact h.2
      · omega)
    have hs := parts_snoc K a y (l.take k) l[k]
    rw [← List.take_succ_eq_append_getElem h, hpf] at hs
    have hle := parts_le K a y (l.take k)
    have idx : SV.v (AV.lit (Value.int .i64 (IntKind.i64.wrap ((k : Int) + 1)))) = SV.v (AV.lit (Value.int .i64 ((k + 1 : Nat) : Int))) := svc (wrap_succ (k := k) (by omega))
    refine ⟨_, by omega, getRw h, rfl, ?_⟩
    refine .inl ⟨_, hq, ?_⟩
    cases hx : (formR K a y l[k] p).2 with
    | false =>
      rw [hx] at hs
      simp only [Bool.false_eq_true, if_false, List.append_nil] at hs
      refine ⟨fun hbs => ?_, fun hbs => ?_⟩ <;> first | (exfalso; revert hbs; simp [Kn.form]; done) | skip
      refine ⟨⟨k + 1, h⟩, by simp; omega, ⟨rfl, ?_, rfl, rfl, idx, trivial⟩, ⟨rfl, trivial⟩, rfl⟩
      show _ = SV.v (AV.sl (eRws F b (parts K a y (l.take (k + 1)))))
      rw [hs]; rfl
    | true =>
      rw [hx] at hs
      simp only [if_true] at hs
      refine ⟨fun hbs => ?_, fun hbs => ?_⟩ <;> first | (exfalso; revert hbs; simp [Kn.form]; done) | skip
      refine ⟨by rw [lenRw]; simp at hle ⊢; omega, uniRw _ _ _, uniMap (f := eRw F b) (fun _ => rfl) [(formR K a y l[k] p).1], ?_⟩
      refine ⟨⟨k + 1, h⟩, by simp; omega, ⟨rfl, ?_, rfl, rfl, idx, trivial⟩, ⟨rfl, trivial⟩, rfl⟩
      show _ = SV.v (AV.sl (eRws F b (parts K a y (l.take (k + 1)))))
      rw [hs]; unfold eRws; rw [List.map_append]; rfl
  · have h : k = l.length := by have h := of_decide_eq_false h; simp only at h; omega
    subst h
    show AV.sl (eRws F b (parts K a y (l.take l.length))) = _
    rw [List.take_length]

theorem forms_ok (F : Int) (b : Nat → Int) (K : Kn) (l : List Rw) (a : Nat) (y : ByteArray) (hc : ∀ r ∈ l, colOk a r) (hm : K.many ≤ 2) (hb : l.length < 10000) :
    ACall Tryd.prog n_cover_forms [.sl (eRws F b l), .lit (.int .i64 (a : Nat)), .lit (.int .i64 (K.many : Nat)), afn K, .lit (.string y)] (.sl (eRws F b (parts K a y l))) := by
  have hs := some_ok F b K l a y hc hm hb
  refine acall_of_wcx ttok mixed Tryd.func36 rfl (by rfl) (Nat.le_of_ble_eq_true rfl) (by kernel_rfl) ?_
  cases K with
  | con s n =>
    refine .inl ?_
    refine .inl ⟨_, hs, ?_⟩
    exact rfl
  | int x =>
    refine .inl ?_
    refine .inl ⟨_, hs, ?_⟩
    exact rfl
  | none =>
    refine .inl ?_
    refine .inl ⟨_, hs, ?_⟩
    exact rfl
end Go.Proofs.YtefdahofpjmnfaaDoor

namespace Go.Proofs.YtefdahofpjmnfaaDoor
open Go Fp
set_option maxRecDepth 10000
set_option maxHeartbeats 16000000

theorem max_ok (l : List Int) (hne : l ≠ []) (h0 : ∀ x ∈ l, 0 ≤ x) (hl : l.length < 10000) : ACall Tryd.prog n_slices_Max_intint [.sl (eIs l)] (.lit (.int .i64 (l.foldl max 0))) := by
  have hpos : 0 < l.length := List.length_pos_iff.2 hne
  have hll := lenI l
  refine acall_of_wcx ttok mixed Tryd.func99 rfl (by rfl) (Nat.le_of_ble_eq_true rfl) (by kernel_rfl) ?_
  refine ⟨fun h => ?_, fun _ => ?_⟩
  · have h := of_decide_eq_true h; rw [hll] at h; omega
  refine ⟨_, by omega, getI hpos, rfl, ?_⟩
  refine ⟨{k : Nat // 1 ≤ k ∧ k ≤ l.length}, fun k => { vs := [(0, .v (.sl (eIs l))), (3, sv ((l.take k.1).foldl max 0)), (4, sv (k.1 : Nat))] },
    fun k => l.length - k.1, ⟨1, Nat.le_refl _, hpos⟩, ⟨⟨rfl, svc ?_, rfl, trivial⟩, trivial, rfl⟩, ?_⟩
  · cases l with
    | nil => simp at hpos
    | cons x l => have := h0 x (by simp); simp; omega
  rintro ⟨k, hk1, hk⟩
  refine ⟨fun h => ?_, fun h => ?_⟩
  · have h : k < l.length := by have h := of_decide_eq_true h; rw [hll] at h; simp only at h; omega
    refine ⟨_, by omega, getI h, rfl, ?_⟩
    refine ⟨⟨k + 1, by omega, h⟩, by simp; omega, ⟨rfl, svc ?_, svc (wrap_succ (k := k) (by omega)), trivial⟩, trivial, rfl⟩
    rw [List.take_succ_eq_append_getElem h, max_snoc]
    simp only
    split <;> omega
  · have h : k = l.length := by have h := of_decide_eq_false h; rw [hll] at h; simp only at h; omega
    subst h
    show AV.lit (.int .i64 ((l.take l.length).foldl max 0)) = _
    rw [List.take_length]

theorem consT_pos {t : Nat} (h0 : 0 < t) (h5 : t < 5) : ∃ q qs, consT t = q :: qs := by
  match t, h0, h5 with
  | 1, _, _ | 2, _, _ | 3, _, _ | 4, _, _ => exact ⟨_, _, rfl⟩
  | n + 5, _, h => omega

theorem conTup' (s : ByteArray) (L K : List AV) (A B : List Pt) (h : L = ePts A) (k : K = ePts B) : AV.tup [.sl ([aPt 4 0 s L .no []] ++ K), .sb true] = missOr (some (conP s A :: B)) := by
  rw [h, k, conP_e]; rfl

theorem missing_ok (F : Int) (b : Nat → Int) : ∀ (n : Nat) (l : List Rw) (cs : List Nat), RowsTy cs n l →
    ACall Tryd.prog n_cover_missing [cAV, .sl (eRws F b l), .lit (.int .i64 (cs.length : Nat))] (missOr (miss n l cs.length)) := by
  intro n
  induction n with
  | zero => intro l cs h; have := h.fuel; omega
  | succ n ih =>
    intro l cs h
    cases cs with
    | nil =>
      refine acall_of_wcx ttok mixed Tryd.func86 rfl (by rfl) (Nat.le_of_ble_eq_true rfl) (by kernel_rfl) ?_
      refine ⟨fun _ => ?_, fun h => by simp at h⟩
      refine ⟨by kernel_rfl, ?_⟩
      cases l with
      | nil => exact rfl
      | cons r l => exact (congrArg (fun b => AV.tup [.sl [], .sb b]) (show decide ((((eRws F b (r :: l)).length : Nat) : Int) = 0) = false by simp [eRws]; omega))
    | cons t cs =>
      have hcap := h.cap
      have hcl : cs.length < 10000 := by have := h.fuel; simp at this; omega
      have wc : IntKind.i64.wrap (((cs.length + 1 : Nat) : Int) - 1) = (cs.length : Int) := wrap_pred (by omega)
      have hC := cons_ok F b l (t :: cs) 0 t rfl h.tys (by simp; have := h.fuel; simp at this; omega) h.len
      have rest : ACall Tryd.prog n_cover_missing_1 [.ptr [cAV], .ptr [.sl (eRws F b l)], .ptr [.lit (.int .i64 ((cs.length + 1 : Nat) : Int))]] (missOr (miss n (parts .none 0 .empty l) cs.length)) := by
        have hf := forms_ok F b .none l 0 .empty h.ok (by simp [Kn.many]) h.len
        have hrec := ih (parts .none 0 .empty l) cs h.none
        rw [← wc] at hrec
        refine acall_of_wcx ttok mixed Tryd.func98 rfl (by rfl) (Nat.le_of_ble_eq_true rfl) (by kernel_rfl) ?_
        refine .inl ⟨_, hf, ?_⟩
        refine .inl ⟨_, hrec, ?_⟩
        cases miss n (parts .none 0 .empty l) cs.length <;> exact ⟨by kernel_rfl, rfl⟩
      rcases colCons_ty (a := 0) (t := t) rfl h.tys with ⟨hno, hn4⟩ | ⟨hks, ht0, ht5, h4⟩
      · rw [hno] at hC
        have hm : miss (n + 1) l (t :: cs).length = match miss n (parts .none 0 .empty l) cs.length with
            | some m => some (ownOf (intsOf 0 l) :: m)
            | none => (intsOf 0 l).findSome? fun x => (miss n (parts (.int x) 0 .empty l) cs.length).map fun m => intP x :: m := by
          simp only [List.length_cons, miss, hno]
          rfl
        rw [hm]
        have hI := ints_ok F b l 0 h.ok h.len
        have hmem : ∀ x ∈ intsOf 0 l, t = 0 ∧ 0 ≤ x ∧ x < 1000 := ints_mem (a := 0) (t := t) rfl h.tys (fun x hx => by simp at hx)
        have hil : (intsOf 0 l).length < 10000 := by have := ints_le 0 l []; have := h.len; unfold intsOf; simp at *; omega
        have hpar := fun (x : Int) => forms_ok F b (.int x) l 0 .empty h.ok (by simp [Kn.many]) h.len
        have hrx : ∀ x ∈ intsOf 0 l, ACall Tryd.prog n_cover_missing _ _ := fun x hx => ih (parts (.int x) 0 .empty l) cs (h.int (hmem x hx).1)
        have hMx := max_ok (intsOf 0 l)
        have hmb := max_bd (intsOf 0 l) 0 (fun x hx => (hmem x hx).2.2) (by decide) (by decide)
        have hml0 := miss_len n (parts .none 0 .empty l) cs.length
        generalize intsOf 0 l = is at *
        generalize miss n (parts .none 0 .empty l) cs.length = mm at rest hml0 ⊢
        obtain ⟨R, hR⟩ : ∃ R, R = (match mm with
            | some m => some (ownOf is :: m)
            | none => is.findSome? fun x => (miss n (parts (.int x) 0 .empty l) cs.length).map fun m => intP x :: m) := ⟨_, rfl⟩
        rw [← hR]
        -- behind the first question
        have tail : Wsem Tryd.prog (sndC (sndC (sndC (sndC (sndC (sndC (sndC (bodyC Tryd.f86)))))))) (mkC { vs := [(3, .v (.ptr [cAV])), (4, .v (.ptr [.sl (eRws F b l)])), (5, .v (.ptr [.lit (.int .i64 ((cs.length + 1 : Nat) : Int))])), (8, .v (.fn (.func n_cover_missing_1) [] [.ptr [cAV], .ptr [.sl (eRws F b l)], .ptr [.lit (.int .i64 ((cs.length + 1 : Nat) : Int))]])), (16, .box 0 (ePt (ownOf is))), (17, .v (.sl (eIs is)))] })
            (fun c => RetP tt Tryd.f86.results.toList (missOr R) (den c)) (fun _ _ => False)
            (fun c => RetP tt Tryd.f86.results.toList (missOr R) (den c)) := by
          refine Wsem.of ttok mixed ?_
          refine .inl ⟨_, rest, ?_⟩
          cases mm with
          | some m =>
            simp only at hR
            subst hR
            have hml := hml0 m rfl
            refine ⟨fun hbs => ?_, fun hbs => ?_⟩ <;> first | (exfalso; revert hbs; simp [Kn.form]; done) | skip
            refine ⟨by simp [ePts]; omega, uni1 rfl, uniP _, ?_⟩
            exact ownTup _ _ _ rfl
          | none =>
            simp only at hR
            refine ⟨fun hbs => ?_, fun hbs => ?_⟩ <;> first | (exfalso; revert hbs; simp [Kn.form]; done) | skip
            refine ⟨{i : Nat // i ≤ is.length ∧ ∀ j x, j < i → is[j]? = some x → (miss n (parts (.int x) 0 .empty l) cs.length).map (fun m => intP x :: m) = none},
              fun i => { vs := [(3, .v (.ptr [cAV])), (4, .v (.ptr [.sl (eRws F b l)])), (5, .v (.ptr [.lit (.int .i64 ((cs.length + 1 : Nat) : Int))])), (94, .v (.sl (eIs is))), (95, sv (is.length : Nat)), (96, sv (i.1 : Nat))] },
              fun i => is.length - i.1, ⟨0, Nat.zero_le _, fun j y h => by omega⟩, ⟨⟨rfl, rfl, rfl, rfl, svc (by rw [lenI]), rfl, trivial⟩, trivial, rfl⟩, ?_⟩
            rintro ⟨k, hk, hinv⟩
            refine ⟨fun h2 => ?_, fun h2 => ?_⟩
            · have h2 : k < is.length := by have h2 := of_decide_eq_true h2; simp only at h2; omega
              have hq := List.getElem?_eq_getElem h2
              have hA := hpar is[k]
              have hO := ofInt_ok is[k]
              have hRc := hrx is[k] (List.getElem_mem h2)
              rw [← wc] at hRc
              refine ⟨_, by omega, getI h2, rfl, ?_⟩
              refine .inl ⟨_, hO, ?_⟩
              refine .inl ⟨_, hA, ?_⟩
              refine .inl ⟨_, hRc, ?_⟩
              cases hy : miss n (parts (.int is[k]) 0 .empty l) cs.length with
              | some m =>
                have hml := miss_len _ _ _ _ hy
                refine ⟨by kernel_rfl, ?_⟩
                refine ⟨fun hbs => ?_, fun hbs => ?_⟩ <;> first | (exfalso; revert hbs; simp [Kn.form]; done) | skip
                refine ⟨by simp [ePts]; omega, uni1 rfl, uniP _, ?_⟩
                have hR2 : R = some (intP is[k] :: m) := by rw [hR, fs_at hq hinv (b := intP is[k] :: m) (by rw [hy]; rfl)]
                subst hR2
                exact ownTup (intP is[k]) _ _ rfl
              | none =>
                refine ⟨by kernel_rfl, ?_⟩
                refine ⟨fun hbs => ?_, fun hbs => ?_⟩ <;> first | (exfalso; revert hbs; simp [Kn.form]; done) | skip
                refine ⟨⟨k + 1, h2, fun j y hj hyy => ?_⟩, by simp; omega, ⟨rfl, rfl, rfl, rfl, rfl, svc (wrap_succ (k := k) (by omega)), trivial⟩, trivial, rfl⟩
                rcases Nat.lt_or_ge j k with hlt | hge
                · exact hinv j y hlt hyy
                · have : j = k := by omega
                  subst this
                  rw [hq] at hyy; injection hyy with hyy; subst hyy
                  rw [hy]; rfl
            · have h2 : k = is.length := by have h2 := of_decide_eq_false h2; simp only at h2; omega
              have hR2 : R = none := by rw [hR]; exact fs_none (fun j y hj hy => hinv j y (by omega) hy)
              subst hR2
              exact rfl
        refine acall_of_wsem ttok mixed Tryd.func86 rfl (by rfl) (Nat.le_of_ble_eq_true rfl) (by kernel_rfl) ?_
        refine Wsem.seq ttok mixed ?_
        refine Wsem.seq ttok mixed ?_
        refine ⟨fun h => by simp at h; omega, fun _ => ?_⟩
        refine Wsem.seq ttok mixed ?_
        refine .inl ?_
        refine Wsem.seq ttok mixed ?_
        refine .inl ⟨_, hC, ?_⟩
        refine Wsem.seq ttok mixed ?_
        refine Wsem.seq ttok mixed ?_
        refine .inl ⟨_, hI, ?_⟩
        refine Wsem.seq ttok mixed ?_
        by_cases hi0 : is = []
        · have e : ownOf is = wildP := if_pos hi0
          refine ⟨fun hbs => ?_, fun hbs => ?_⟩ <;> first | (exfalso; revert hbs; (simp [hi0, eIs]); done) | skip
          refine Wsem.cut _ ?_ tail
          refine ⟨⟨rfl, rfl, rfl, rfl, ?_, rfl, trivial⟩, trivial, rfl⟩
          rw [e]; exact rfl
        · have e : ownOf is = intP (is.foldl max 0 + 1) := if_neg hi0
          have hlp : 0 < (eIs is).length := by rw [lenI]; exact List.length_pos_iff.2 hi0
          have hM := hMx hi0 (fun x hx => (hmem x hx).2.1) hil
          have wm : IntKind.i64.wrap (is.foldl max 0 + 1) = is.foldl max 0 + 1 := wrap_in (by unfold InR; omega)
          refine ⟨fun _ => ?_, fun h => ?_⟩
          · refine .inl ⟨_, hM, ?_⟩
            refine Wsem.cut _ ?_ tail
            refine ⟨⟨rfl, rfl, rfl, rfl, ?_, rfl, trivial⟩, trivial, rfl⟩
            rw [e]
            show SV.box 0 (aPt 3 (IntKind.i64.wrap (is.foldl max 0 + 1)) .empty [] .no []) = _
            rw [wm]; exact rfl
          · have h := of_decide_eq_false h; omega
      · rw [hks] at hC
        have hm : miss (n + 1) l (t :: cs).length = (consT t).findSome? fun q => (miss n (parts (.con q.1 q.2.length) 0 .empty l) (q.2.length + cs.length)).map fun m => conP q.1 (m.take q.2.length) :: m.drop q.2.length := by
          simp only [List.length_cons, miss, hks]
        rw [hm]
        have h3 := consT_len t
        obtain ⟨q0, qs, hqq⟩ := consT_pos ht0 ht5
        have hat : ∀ q ∈ consT t, ∃ fs, (q.1, fs) ∈ wCons t ∧ fs.length = q.2.length := fun q hq => consT_at hq
        rw [hqq] at hC h3 hat ⊢
        obtain ⟨R, hR⟩ : ∃ R, R = ((q0 :: qs).findSome? fun q => (miss n (parts (.con q.1 q.2.length) 0 .empty l) (q.2.length + cs.length)).map fun m => conP q.1 (m.take q.2.length) :: m.drop q.2.length) := ⟨_, rfl⟩
        rw [← hR]
        refine acall_of_wcx ttok mixed Tryd.func86 rfl (by rfl) (Nat.le_of_ble_eq_true rfl) (by kernel_rfl) ?_
        refine ⟨fun h => by simp at h; omega, fun _ => ?_⟩
        refine .inl ?_
        refine .inl ⟨_, hC, ?_⟩
        refine ⟨{i : Nat // i ≤ (q0 :: qs).length ∧ ∀ j q, j < i → (q0 :: qs)[j]? = some q → (miss n (parts (.con q.1 q.2.length) 0 .empty l) (q.2.length + cs.length)).map (fun m => conP q.1 (m.take q.2.length) :: m.drop q.2.length) = none},
          fun i => { vs := [(3, .v (.ptr [cAV])), (4, .v (.ptr [.sl (eRws F b l)])), (5, .v (.ptr [.lit (.int .i64 ((cs.length + 1 : Nat) : Int))])), (35, .v (.sl (eCons (q0 :: qs)))), (36, sv ((q0 :: qs).length : Nat)), (37, sv (i.1 : Nat))] },
          fun i => (q0 :: qs).length - i.1, ⟨0, Nat.zero_le _, fun j y h => by omega⟩, ⟨⟨rfl, rfl, rfl, rfl, svc (by rw [lenC]), rfl, trivial⟩, trivial, rfl⟩, ?_⟩
        rintro ⟨i, hi, hinv⟩
        refine ⟨fun h1 => ?_, fun h1 => ?_⟩
        · have h1 : i < (q0 :: qs).length := by have h1 := of_decide_eq_true h1; simp only at h1; omega
          obtain ⟨fs, hfs, hfl⟩ := hat _ (List.getElem_mem h1)
          have hq := List.getElem?_eq_getElem h1
          have hg : (eCons (q0 :: qs))[i]? = some (eCon (q0 :: qs)[i]) := getM h1
          generalize (q0 :: qs)[i] = q at hfs hfl hq hg
          have hf2 : fs.length ≤ 2 := (wCons_fs hfs).1
          have hrec := ih (parts (.con q.1 fs.length) 0 .empty l) (fs ++ cs) (h.con hfs h4)
          have hA := forms_ok F b (.con q.1 fs.length) l 0 .empty h.ok (by simp [Kn.many]; exact hf2) h.len
          have hO := ofCon_ok q.1 fs.length
          have el : ((fs.length : Nat) : Int) = ((eTys q.2).length : Nat) := by rw [lenT, hfl]
          have ec : IntKind.i64.wrap (IntKind.i64.wrap (((eTys q.2).length : Nat) + ((cs.length + 1 : Nat) : Int)) - 1) = (((fs ++ cs).length : Nat) : Int) := by
            rw [← el, show ((fs.length : Nat) : Int) + ((cs.length + 1 : Nat) : Int) = ((fs.length + cs.length + 1 : Nat) : Int) by omega, wrap_nat (by omega), wrap_pred (by omega), List.length_append]
          rw [show ((Kn.many (.con q.1 fs.length) : Nat) : Int) = ((eTys q.2).length : Nat) from el] at hA
          rw [← ec] at hrec
          refine ⟨_, by omega, hg, rfl, ?_⟩
          refine .inl ⟨_, hO, ?_⟩
          refine .inl ⟨_, hA, ?_⟩
          refine .inl ⟨_, hrec, ?_⟩
          rw [List.length_append]
          cases hx : miss n (parts (.con q.1 fs.length) 0 .empty l) (fs.length + cs.length) with
          | none =>
            refine ⟨by kernel_rfl, ?_⟩
            refine ⟨fun hbs => ?_, fun hbs => ?_⟩ <;> first | (exfalso; revert hbs; simp [Kn.form]; done) | skip
            refine ⟨⟨i + 1, h1, fun j y hj hy => ?_⟩, (by show (q0 :: qs).length - (i + 1) < (q0 :: qs).length - i; omega), ⟨rfl, rfl, rfl, rfl, rfl, svc (wrap_succ (k := i) (by omega)), trivial⟩, trivial, rfl⟩
            rcases Nat.lt_or_ge j i with hlt | hge
            · exact hinv j y hlt hy
            · have : j = i := by omega
              subst this
              rw [hq] at hy; injection hy with hy; subst hy
              rw [← hfl, hx]; rfl
          | some m =>
            have hml := miss_len _ _ _ _ hx
            have hpm := lenP m
            refine ⟨by kernel_rfl, ?_⟩
            refine ⟨fun hbs => ?_, fun hbs => ?_⟩ <;> first | (exfalso; revert hbs; simp [Kn.form]; done) | skip
            have e1 : List.drop (Int.toNat 0) (List.take (Int.toNat ((eTys q.2).length : Nat)) (ePts m)) = ePts (m.take q.2.length) := by rw [← hfl, ← el]; simp [ePts]
            have e2 : List.drop (Int.toNat ((eTys q.2).length : Nat)) (List.take (Int.toNat (((ePts m).length : Nat) : Int)) (ePts m)) = ePts (m.drop q.2.length) := by rw [← el, hfl, Int.toNat_natCast, Int.toNat_natCast, List.take_length]; simp [ePts]
            refine ⟨by decide, by omega, by rw [hpm]; omega, rfl, .inl rfl, ?_⟩
            refine ⟨by kernel_rfl, ?_⟩
            refine ⟨by omega, by rw [hpm]; omega, Int.le_refl _, .inr (uniP _), ?_⟩
            refine ⟨by rw [e2]; simp [ePts]; omega, uni1 rfl, by rw [e2]; exact uniP _, ?_⟩
            refine ⟨by kernel_rfl, ?_⟩
            have hR2 : R = some (conP q.1 (m.take q.2.length) :: m.drop q.2.length) := by rw [hR, fs_at hq hinv (b := conP q.1 (m.take q.2.length) :: m.drop q.2.length) (by rw [← hfl, hx]; rfl)]
            subst hR2
            exact conTup' q.1 _ _ _ _ e1 e2
        · have h1 : i = (q0 :: qs).length := by have h1 := of_decide_eq_false h1; simp only at h1; omega
          have hR2 : R = none := by rw [hR]; exact fs_none (fun j y hj hy => hinv j y (by omega) hy)
          subst hR2
          exact rfl
end Go.Proofs.YtefdahofpjmnfaaDoor

namespace Go.Proofs.YtefdahofpjmnfaaDoor
open Go Fp
set_option maxRecDepth 10000
set_option maxHeartbeats 16000000

theorem Missing_ok {t : Nat} {l : List Pt} (h : PatsOk t l) : ACall Tryd.prog n_cover_Missing [cAV, .sl (ePts l)] (misOr (missOf l)) := by
  have hl := h.2.1
  have h1 := rows_ok l (by omega)
  have h2 : ACall Tryd.prog n_cover_missing [cAV, .sl (eRws 0 (fun _ => 0) (rowsFrom 0 l)), .lit (.int .i64 1)] (missOr (miss 300 (rowsFrom 0 l) 1)) := missing_ok 0 (fun _ => 0) 300 (rowsFrom 0 l) [t] h.all
  unfold missOf
  have hml0 := miss_len 300 (rowsFrom 0 l) 1
  generalize miss 300 (rowsFrom 0 l) 1 = mm at h2 hml0
  refine acall_of_wcx ttok mixed Tryd.func54 rfl (by rfl) (Nat.le_of_ble_eq_true rfl) (by kernel_rfl) ?_
  refine .inl ⟨_, h1, .inl ⟨_, h2, ?_⟩⟩
  match mm, hml0 with
  | none, _ =>
    refine ⟨fun hbs => ?_, fun hbs => ?_⟩ <;> first | (exfalso; revert hbs; simp [Kn.form]; done) | skip
    exact rfl
  | some [p], _ =>
    refine ⟨fun hbs => ?_, fun hbs => ?_⟩ <;> first | (exfalso; revert hbs; simp [Kn.form]; done) | skip
    refine ⟨ePt p, by omega, rfl, rfl, ?_⟩
    exact rfl
  | some [], hml0 => exact absurd (hml0 [] rfl) (by simp)
  | some (p :: q :: m), hml0 => exact absurd (hml0 _ rfl) (by simp)

theorem type20_ok (t : Nat) (ht : t < 5) : ACall Tryd.prog n_fugueref20_Type [.lit (.int .i64 (t : Nat))] (eTy (wTy t)) := by
  refine acall_of_wcx ttok mixed Tryd.func11 rfl (by rfl) (Nat.le_of_ble_eq_true rfl) (by kernel_rfl) ?_
  exact .inl ⟨_, worldType_ok t ht, rfl⟩

abbrev pN : Pt := .mk 4 0 sN .no [wTy 0] []
abbrev pOne : Pt := .mk 4 0 sC .no [wTy 0] [wildP, pN]
abbrev pWW : Pt := .mk 4 0 sC .no [] [wildP, wildP]
abbrev pI (n : Int) : Pt := .mk 3 n .empty .no [] []
theorem ty_pN : TyP 2 pN := .con 2 _ [] rfl (List.Mem.head _) rfl (fun i x u hx => by simp [Pt.k] at hx)
theorem tyC {ts : List Tp} {a b : Pt} (ha : TyP 0 a) (hb : TyP 2 b) : TyP 2 (.mk 4 0 sC .no ts [a, b]) := .con 2 _ [0, 2] rfl (List.Mem.tail _ (List.Mem.head _)) rfl (fun i x u hx hu => by
  match i with
  | 0 => simp [Pt.k] at hx hu; subst hx; subst hu; exact ha
  | 1 => simp [Pt.k] at hx hu; subst hx; subst hu; exact hb
  | i + 2 => simp [Pt.k] at hx)
theorem patsA : PatsOk 2 [pN, pWW] := ⟨by decide, by decide, fun p hp => by
  simp at hp
  rcases hp with rfl | rfl
  · exact ⟨ty_pN, by decide⟩
  · exact ⟨tyC (ty_wild 0) (ty_wild 2), by decide⟩⟩
theorem patsB : PatsOk 2 [pN, pOne] := ⟨by decide, by decide, fun p hp => by
  simp at hp
  rcases hp with rfl | rfl
  · exact ⟨ty_pN, by decide⟩
  · exact ⟨tyC (ty_wild 0) ty_pN, by decide⟩⟩
theorem patsC : PatsOk 0 [pI 0, pI 1] := ⟨by decide, by decide, fun p hp => by
  simp at hp
  rcases hp with rfl | rfl
  · exact ⟨.int _ rfl rfl (by decide), by decide⟩
  · exact ⟨.int _ rfl rfl (by decide), by decide⟩⟩
theorem missA : missOf [pN, pWW] = none := by kernel_rfl
theorem missB : missOf [pN, pOne] = some [conP sC [wildP, conP sC [wildP, wildP]]] := by kernel_rfl
theorem missC : missOf [pI 0, pI 1] = some [intP 2] := by kernel_rfl


theorem lives_ok : ACall Tryd.prog n_fuguelaw20_lives [] (.sb true) := by
  have hA := Missing_ok patsA
  have hB := Missing_ok patsB
  have hC := Missing_ok patsC
  rw [missA] at hA
  rw [missB] at hB
  rw [missC] at hC
  have ht := type20_ok 0 (by decide)
  refine acall_of_wcx ttok mixed Tryd.func15 rfl (by rfl) (Nat.le_of_ble_eq_true rfl) (by kernel_rfl) ?_
  refine .inl ⟨_, program_ok, .inl ⟨_, new_ok, ?_⟩⟩
  refine .inl ⟨_, ht, ?_⟩
  refine .inl ⟨_, ht, ?_⟩
  refine ⟨by kernel_rfl, ?_⟩
  refine .inl ⟨_, hA, ?_⟩
  refine .inl ⟨_, hB, ?_⟩
  refine .inl ⟨_, hC, ?_⟩
  refine ⟨fun hbs => ?_, fun hbs => ?_⟩ <;> first | (exfalso; revert hbs; decide) | skip
  refine ⟨fun hbs => ?_, fun hbs => ?_⟩ <;> first | (exfalso; revert hbs; decide) | skip
  refine ⟨fun hbs => ?_, fun hbs => ?_⟩ <;> first | (exfalso; revert hbs; decide) | skip
  refine ⟨fun hbs => ?_, fun hbs => ?_⟩ <;> first | (exfalso; revert hbs; decide) | skip
  refine ⟨ePt (conP sC [wildP, wildP]), by omega, rfl, rfl, ?_⟩
  refine ⟨fun hbs => ?_, fun hbs => ?_⟩ <;> first | (exfalso; revert hbs; decide) | skip
  refine ⟨fun hbs => ?_, fun hbs => ?_⟩ <;> first | (exfalso; revert hbs; decide) | skip
  refine ⟨fun hbs => ?_, fun hbs => ?_⟩ <;> first | (exfalso; revert hbs; decide) | skip
  exact rfl
end Go.Proofs.YtefdahofpjmnfaaDoor

namespace Go.Proofs.YtefdahofpjmnfaaDoor
open Go Fp
set_option maxRecDepth 10000
set_option maxHeartbeats 16000000

theorem misOr_cases (x : Option (List Pt)) (hx : ∀ m, x = some m → m.length = 1 ∧ szL m ≤ 300) : ∃ (p : Pt) (b : Bool), misOr x = .tup [ePt p, .sb b] ∧ p.sz ≤ 300 ∧ ((x = none ∧ b = false) ∨ (x = some [p] ∧ b = true)) := by
  match x, hx with
  | none, _ => exact ⟨zeroP, false, rfl, by decide, .inl ⟨rfl, rfl⟩⟩
  | some [p], hx =>
    have := (hx _ rfl).2
    simp only [szL] at this
    exact ⟨p, true, rfl, by omega, .inr ⟨rfl, rfl⟩⟩
  | some [], hx => exact absurd (hx _ rfl).1 (by simp)
  | some (p :: q :: m), hx => exact absurd (hx _ rfl).1 (by simp)
theorem missOf_facts (l : List Pt) : ∀ m, missOf l = some m → m.length = 1 ∧ szL m ≤ 300 := fun m h => ⟨miss_len _ _ _ _ h, miss_sz _ _ _ _ h⟩

end Go.Proofs.YtefdahofpjmnfaaDoor

namespace Go.Proofs.YtefdahofpjmnfaaDoor
open Go Fp
set_option maxRecDepth 10000
set_option maxHeartbeats 16000000

/-- The first of a list of which something holds; its place, or -1. -/
theorem first_place {α : Type} (l : List α) (g : α → Bool) : ∃ i : Int, ((∃ k : Nat, i = k ∧ ∃ h : k < l.length, g l[k] = true ∧ ∀ j (hj : j < l.length), j < k → g l[j] = false) ∨ (i = -1 ∧ ∀ x ∈ l, g x = false)) ∧ decide (0 ≤ i) = l.any g := by
  induction l with
  | nil => exact ⟨-1, .inr ⟨rfl, by simp⟩, rfl⟩
  | cons x l ih =>
    cases hx : g x with
    | true => exact ⟨0, .inl ⟨0, rfl, by simp, hx, fun j hj h => by omega⟩, by simp [hx]⟩
    | false =>
      obtain ⟨i, h1, h2⟩ := ih
      rcases h1 with ⟨k, rfl, h, hk, hj⟩ | ⟨rfl, h1⟩
      · refine ⟨((k + 1 : Nat) : Int), .inl ⟨k + 1, rfl, by simp; omega, by simpa using hk, fun j hjl hjk => ?_⟩, ?_⟩
        · match j with
          | 0 => exact hx
          | j + 1 => simpa using hj j (by simpa using hjl) (by omega)
        · rw [List.any_cons, hx, Bool.false_or, ← h2]
          simp; omega
      · refine ⟨-1, .inr ⟨rfl, fun y hy => ?_⟩, by rw [List.any_cons, hx, Bool.false_or, ← h2]⟩
        rcases List.mem_cons.1 hy with rfl | hy
        · exact hx
        · exact h1 y hy

theorem containsCon_ok (l : List (ByteArray × List Tp)) (f : Nat) (caps : List AV) (g : ByteArray × List Tp → Bool) (hl : l.length < 10000) (hg : ∀ q ∈ l, ACall Tryd.prog f (eCon q :: caps) (.sb (g q))) :
    ACall Tryd.prog n_slices_ContainsFunc_apiConapiCon [.sl (eCons l), .fn (.func f) [] caps] (.sb (l.any g)) := by
  obtain ⟨i, hi, hd⟩ := first_place l g
  have hI : ACall Tryd.prog n_slices_IndexFunc_apiConapiCon [.sl (eCons l), .fn (.func f) [] caps] (.lit (.int .i64 i)) := by
    refine acall_of_wcx ttok mixed Tryd.func100 rfl (by rfl) (Nat.le_of_ble_eq_true rfl) (by kernel_rfl) ?_
    refine ⟨{k : Nat // k ≤ l.length ∧ ∀ j (hj : j < l.length), j < k → g l[j] = false}, fun k => { vs := [(0, .v (.sl (eCons l))), (1, .v (.fn (.func f) [] caps)), (6, .v (.sl (eCons l))), (7, sv (l.length : Nat)), (8, sv (k.1 : Nat))] },
      fun k => l.length - k.1, ⟨0, Nat.zero_le _, fun j hj h => by omega⟩, ⟨⟨rfl, rfl, rfl, svc (by rw [lenC]), rfl, trivial⟩, trivial, rfl⟩, ?_⟩
    rintro ⟨k, hk, hinv⟩
    refine ⟨fun h => ?_, fun h => ?_⟩
    · have h : k < l.length := by have h := of_decide_eq_true h; simp only at h; omega
      have hge : (eCons l)[k]? = some (eCon l[k]) := getM h
      have hc := hg l[k] (List.getElem_mem h)
      refine ⟨_, by omega, hge, rfl, ?_⟩
      refine .inl ⟨_, hc, ?_⟩
      refine ⟨fun h2 => ?_, fun h2 => ?_⟩
      · have hi' : i = k := by
          rcases hi with ⟨k', rfl, h3, h4, h5⟩ | ⟨_, h3⟩
          · rcases Nat.lt_trichotomy k k' with q | q | q
            · have := h5 k h q; rw [h2] at this; cases this
            · rw [q]
            · have := hinv k' h3 q; rw [h4] at this; cases this
          · have := h3 _ (List.getElem_mem h); rw [h2] at this; cases this
        subst hi'
        exact rfl
      · refine ⟨⟨k + 1, h, fun j hjl hj => ?_⟩, by simp; omega, ⟨rfl, rfl, rfl, rfl, svc (wrap_succ (k := k) (by omega)), trivial⟩, trivial, rfl⟩
        rcases Nat.lt_or_ge j k with hlt | hge
        · exact hinv j hjl hlt
        · have : j = k := by omega
          subst this; exact h2
    · have h : k = l.length := by have h := of_decide_eq_false h; simp only at h; omega
      have hi' : i = -1 := by
        rcases hi with ⟨k', rfl, h3, h4, h5⟩ | ⟨h3, _⟩
        · have := hinv k' h3 (by omega); rw [h4] at this; cases this
        · exact h3
      subst hi'
      exact rfl
  rw [← hd]
  refine acall_of_wcx ttok mixed Tryd.func89 rfl (by rfl) (Nat.le_of_ble_eq_true rfl) (by kernel_rfl) ?_
  exact .inl ⟨_, hI, rfl⟩

theorem containsInt_ok (l : List Int) (f : Nat) (caps : List AV) (g : Int → Bool) (hl : l.length < 10000) (hg : ∀ q ∈ l, ACall Tryd.prog f (.lit (.int .i64 q) :: caps) (.sb (g q))) :
    ACall Tryd.prog n_slices_ContainsFunc_intint [.sl (eIs l), .fn (.func f) [] caps] (.sb (l.any g)) := by
  obtain ⟨i, hi, hd⟩ := first_place l g
  have hI : ACall Tryd.prog n_slices_IndexFunc_intint [.sl (eIs l), .fn (.func f) [] caps] (.lit (.int .i64 i)) := by
    refine acall_of_wcx ttok mixed Tryd.func101 rfl (by rfl) (Nat.le_of_ble_eq_true rfl) (by kernel_rfl) ?_
    refine ⟨{k : Nat // k ≤ l.length ∧ ∀ j (hj : j < l.length), j < k → g l[j] = false}, fun k => { vs := [(0, .v (.sl (eIs l))), (1, .v (.fn (.func f) [] caps)), (6, .v (.sl (eIs l))), (7, sv (l.length : Nat)), (8, sv (k.1 : Nat))] },
      fun k => l.length - k.1, ⟨0, Nat.zero_le _, fun j hj h => by omega⟩, ⟨⟨rfl, rfl, rfl, svc (by rw [lenI]), rfl, trivial⟩, trivial, rfl⟩, ?_⟩
    rintro ⟨k, hk, hinv⟩
    refine ⟨fun h => ?_, fun h => ?_⟩
    · have h : k < l.length := by have h := of_decide_eq_true h; simp only at h; omega
      have hc := hg l[k] (List.getElem_mem h)
      refine ⟨_, by omega, getI h, rfl, ?_⟩
      refine .inl ⟨_, hc, ?_⟩
      refine ⟨fun h2 => ?_, fun h2 => ?_⟩
      · have hi' : i = k := by
          rcases hi with ⟨k', rfl, h3, h4, h5⟩ | ⟨_, h3⟩
          · rcases Nat.lt_trichotomy k k' with q | q | q
            · have := h5 k h q; rw [h2] at this; cases this
            · rw [q]
            · have := hinv k' h3 q; rw [h4] at this; cases this
          · have := h3 _ (List.getElem_mem h); rw [h2] at this; cases this
        subst hi'
        exact rfl
      · refine ⟨⟨k + 1, h, fun j hjl hj => ?_⟩, by simp; omega, ⟨rfl, rfl, rfl, rfl, svc (wrap_succ (k := k) (by omega)), trivial⟩, trivial, rfl⟩
        rcases Nat.lt_or_ge j k with hlt | hge
        · exact hinv j hjl hlt
        · have : j = k := by omega
          subst this; exact h2
    · have h : k = l.length := by have h := of_decide_eq_false h; simp only at h; omega
      have hi' : i = -1 := by
        rcases hi with ⟨k', rfl, h3, h4, h5⟩ | ⟨h3, _⟩
        · have := hinv k' h3 (by omega); rw [h4] at this; cases this
        · exact h3
      subst hi'
      exact rfl
  rw [← hd]
  refine acall_of_wcx ttok mixed Tryd.func91 rfl (by rfl) (Nat.le_of_ble_eq_true rfl) (by kernel_rfl) ?_
  exact .inl ⟨_, hI, rfl⟩

abbrev wCaps (F : Int) (b : Nat → Int) (l : List Rw) (r : Rw) : List AV := [.ptr (eRw F b r).cells, .ptr [cAV], .ptr [.sl (eRws F b l)]]
abbrev wFn (F : Int) (b : Nat → Int) (l : List Rw) (r : Rw) : AV := .fn (.func n_cover_useful_1) [] (wCaps F b l r)

theorem within_ok (F : Int) (b : Nat → Int) {n : Nat} {l : List Rw} {r : Rw} {K : Kn} (hm : K.many ≤ 2) (hc : colOk 0 r) (hl : ∀ r ∈ l, colOk 0 r) (hll : l.length < 10000)
    (hN : ∀ x, part K 0 .empty r = some x → ACall Tryd.prog n_cover_useful [cAV, .sl (eRws F b (parts K 0 .empty l)), eRw F b x] (.sb (fresh n (parts K 0 .empty l) x))) :
    ACall Tryd.prog n_cover_useful_1 ([.lit (.int .i64 (K.many : Nat)), afn K] ++ wCaps F b l r) (.sb (withinP n l r K)) := by
  have h1 := forms_ok F b K [r] 0 .empty (fun q hq => by simp at hq; subst hq; exact hc) hm (by simp)
  have h2 := forms_ok F b K l 0 .empty hl hm hll
  have e1 : parts K 0 .empty [r] = match part K 0 .empty r with | some x => [x] | none => [] := by
    unfold parts
    cases hp : part K 0 .empty r with
    | none => rw [List.filterMap_cons_none hp]; rfl
    | some x => rw [List.filterMap_cons_some hp]; rfl
  rw [e1] at h1
  unfold withinP
  refine acall_of_wcx ttok mixed Tryd.func88 rfl (by rfl) (Nat.le_of_ble_eq_true rfl) (by kernel_rfl) ?_
  generalize hpp : part K 0 .empty r = pp at h1 hN ⊢
  cases K with
  | con s m =>
    cases pp with
    | none =>
      refine .inl ⟨_, h1, ?_⟩
      refine ⟨fun hbs => ?_, fun hbs => ?_⟩ <;> first | (exfalso; revert hbs; (simp [eRws]); done) | skip
      exact ⟨by kernel_rfl, rfl⟩
    | some x =>
      have h3 := hN x rfl
      refine .inl ⟨_, h1, ?_⟩
      refine ⟨fun hbs => ?_, fun hbs => ?_⟩ <;> first | (exfalso; revert hbs; (simp [eRws]); done) | skip
      refine .inl ⟨_, h2, ?_⟩
      refine ⟨eRw F b x, by omega, rfl, rfl, ?_⟩
      refine .inl ⟨_, h3, ?_⟩
      exact ⟨by kernel_rfl, rfl⟩
  | int z =>
    cases pp with
    | none =>
      refine .inl ⟨_, h1, ?_⟩
      refine ⟨fun hbs => ?_, fun hbs => ?_⟩ <;> first | (exfalso; revert hbs; (simp [eRws]); done) | skip
      exact ⟨by kernel_rfl, rfl⟩
    | some x =>
      have h3 := hN x rfl
      refine .inl ⟨_, h1, ?_⟩
      refine ⟨fun hbs => ?_, fun hbs => ?_⟩ <;> first | (exfalso; revert hbs; (simp [eRws]); done) | skip
      refine .inl ⟨_, h2, ?_⟩
      refine ⟨eRw F b x, by omega, rfl, rfl, ?_⟩
      refine .inl ⟨_, h3, ?_⟩
      exact ⟨by kernel_rfl, rfl⟩
  | none =>
    cases pp with
    | none =>
      refine .inl ⟨_, h1, ?_⟩
      refine ⟨fun hbs => ?_, fun hbs => ?_⟩ <;> first | (exfalso; revert hbs; (simp [eRws]); done) | skip
      exact ⟨by kernel_rfl, rfl⟩
    | some x =>
      have h3 := hN x rfl
      refine .inl ⟨_, h1, ?_⟩
      refine ⟨fun hbs => ?_, fun hbs => ?_⟩ <;> first | (exfalso; revert hbs; (simp [eRws]); done) | skip
      refine .inl ⟨_, h2, ?_⟩
      refine ⟨eRw F b x, by omega, rfl, rfl, ?_⟩
      refine .inl ⟨_, h3, ?_⟩
      exact ⟨by kernel_rfl, rfl⟩
end Go.Proofs.YtefdahofpjmnfaaDoor

namespace Go.Proofs.YtefdahofpjmnfaaDoor
open Go Fp
set_option maxRecDepth 10000
set_option maxHeartbeats 16000000

theorem useful_ok (F : Int) (b : Nat → Int) : ∀ (n : Nat) (l : List Rw) (r : Rw) (cs : List Nat), RowsTy cs n (r :: l) →
    ACall Tryd.prog n_cover_useful [cAV, .sl (eRws F b l), eRw F b r] (.sb (fresh n l r)) := by
  intro n
  induction n with
  | zero => intro l r cs h; have := h.fuel; omega
  | succ n ih =>
    intro l r cs h
    have hrt := h.tys r (by simp)
    have hcap := h.cap
    have hrl := h.row r (by simp)
    have hpl := hrt.len
    have hlt := h.tail
    have hll := hlt.len
    cases cs with
    | nil =>
      have hr0 : r.ps = [] := List.length_eq_zero_iff.1 (by simpa using hpl)
      have hl0 : (ePts r.ps).length = 0 := by rw [lenP, hr0]; rfl
      refine acall_of_wcx ttok mixed Tryd.func59 rfl (by rfl) (Nat.le_of_ble_eq_true rfl) (by kernel_rfl) ?_
      refine ⟨fun _ => ?_, fun h => by have := of_decide_eq_false h; rw [hl0] at this; exact absurd rfl this⟩
      rw [fresh, hr0]
      cases l with
      | nil => exact rfl
      | cons q l => exact (congrArg AV.sb (show decide ((((eRws F b (q :: l)).length : Nat) : Int) = 0) = false by simp [eRws]; omega))
    | cons t cs =>
      obtain ⟨p, hp0, hty⟩ := hrt.get (a := 0) (t := t) rfl
      have hps : ∃ ps, r.ps = p :: ps := by
        cases hq : r.ps with
        | nil => rw [hq] at hp0; simp at hp0
        | cons p' ps => rw [hq] at hp0; simp at hp0; subst hp0; exact ⟨ps, rfl⟩
      obtain ⟨ps, hps⟩ := hps
      have hp' : (ePts r.ps)[0]? = some (ePt p) := by simp [ePts, hp0]
      have hlen0 : (ePts r.ps).length ≠ 0 := by rw [lenP, hps]; simp
      have hcol := hlt.ok
      have hfull := h.ok
      have win : ∀ {K : Kn} {fs : List Nat}, Fit t K fs → (∀ x, part K 0 .empty r = some x → RowsTy (fs ++ cs) n (x :: parts K 0 .empty l)) →
          ACall Tryd.prog n_cover_useful_1 ([.lit (.int .i64 (K.many : Nat)), afn K] ++ wCaps F b l r) (.sb (withinP n l r K)) := fun {K fs} hK hx =>
        within_ok F b hK.many2 (hfull r (by simp)) hcol hll (fun x hxx => ih _ _ _ (hx x hxx))
      have win3 : t = 0 → ∀ x, ACall Tryd.prog n_cover_useful_1 ([.lit (.int .i64 0), afn (.int x)] ++ wCaps F b l r) (.sb (withinP n l r (.int x))) := fun ht x => by subst ht; exact win (K := .int x) (fs := []) (.int x) (fun y hy => by rw [← parts_cons hy]; exact h.int rfl)
      have winN : ACall Tryd.prog n_cover_useful_1 ([.lit (.int .i64 0), afn .none] ++ wCaps F b l r) (.sb (withinP n l r .none)) := win (fs := []) (.none t) (fun y hy => by rw [← parts_cons hy]; exact h.none)
      have hC := cons_ok F b l (t :: cs) 0 t rfl hlt.tys (by have := h.fuel; omega) hll
      rw [fresh_cons hps]
      refine acall_of_wcx ttok mixed Tryd.func59 rfl (by rfl) (Nat.le_of_ble_eq_true rfl) (by kernel_rfl) ?_
      refine ⟨fun h => by have := of_decide_eq_true h; exact absurd (by exact_mod_cast this) hlen0, fun _ => ?_⟩
      refine .inl ?_
      refine ⟨_, by omega, hp', rfl, ?_⟩
      by_cases h4 : p.f = 4
      · rw [if_pos h4]
        obtain ⟨fs, hfs, hk⟩ := ty_con hty h4
        have hw := win (.con t p.s fs hfs) (fun y hy => by rw [← parts_cons hy]; exact h.con hfs ⟨r, by simp, p, hp0, h4⟩)
        rw [← hk.len] at hw
        have e1 : ((Kn.many (.con p.s p.k.length) : Nat) : Int) = ((p.eKids.length : Nat) : Int) := by rw [p.eKids_eq, lenP]; rfl
        rw [e1] at hw
        have hO := ofCon_ok p.s p.k.length
        refine ⟨fun hbs => ?_, fun hbs => ?_⟩ <;> first | (exfalso; revert hbs; (simp [h4]); done) | skip
        refine .inl ⟨_, hO, ?_⟩
        refine .inl ⟨_, hw, ?_⟩
        exact ⟨by kernel_rfl, rfl⟩
      rw [if_neg h4]
      refine ⟨fun hbs => ?_, fun hbs => ?_⟩ <;> first | (exfalso; revert hbs; (simp [h4]); done) | skip
      by_cases h3 : p.f = 3
      · rw [if_pos h3]
        obtain ⟨ht, _, _⟩ := ty_int hty h3
        have hw := win3 ht p.n
        have hO := ofInt_ok p.n
        refine ⟨fun hbs => ?_, fun hbs => ?_⟩ <;> first | (exfalso; revert hbs; (simp [h3]); done) | skip
        refine .inl ⟨_, hO, ?_⟩
        refine .inl ⟨_, hw, ?_⟩
        exact ⟨by kernel_rfl, rfl⟩
      rw [if_neg h3]
      refine ⟨fun hbs => ?_, fun hbs => ?_⟩ <;> first | (exfalso; revert hbs; (simp [h3]); done) | skip
      refine .inl ⟨_, hC, ?_⟩
      rcases colCons_ty (a := 0) (t := t) rfl hlt.tys with ⟨hno, hn4⟩ | ⟨hks, ht0, ht5, hh⟩
      · rw [hno]
        have hmem : ∀ x ∈ intsOf 0 l, t = 0 ∧ 0 ≤ x ∧ x < 1000 := ints_mem (a := 0) (t := t) rfl hlt.tys (fun x hx => by simp at hx)
        have hI := ints_ok F b l 0 hcol hll
        have hil : (intsOf 0 l).length < 10000 := by have := ints_le 0 l []; unfold intsOf; simp at *; omega
        generalize intsOf 0 l = is at *
        have h58 : ∀ x ∈ is, ACall Tryd.prog n_cover_useful_3 (.lit (.int .i64 x) :: [.ptr [wFn F b l r]]) (.sb (withinP n l r (.int x))) := fun x hx => by
          have hw := win3 (hmem x hx).1 x
          refine acall_of_wcx ttok mixed Tryd.func92 rfl (by rfl) (Nat.le_of_ble_eq_true rfl) (by kernel_rfl) ?_
          refine .inl ⟨_, ofInt_ok x, ?_⟩
          refine .inl ⟨_, hw, ?_⟩
          exact ⟨by kernel_rfl, rfl⟩
        have hF := containsInt_ok is n_cover_useful_3 [.ptr [wFn F b l r]] (fun x => withinP n l r (.int x)) hil h58
        refine .inl ⟨_, winN, ?_⟩
        cases hw0 : withinP n l r .none with
        | true =>
          refine ⟨fun hbs => ?_, fun hbs => ?_⟩ <;> first | (exfalso; revert hbs; simp [Kn.form]; done) | skip
          rw [Bool.true_or]
          exact rfl
        | false =>
          refine ⟨fun hbs => ?_, fun hbs => ?_⟩ <;> first | (exfalso; revert hbs; simp [Kn.form]; done) | skip
          rw [Bool.false_or]
          refine .inl ⟨_, hI, ?_⟩
          refine .inl ?_
          refine .inl ⟨_, hF, ?_⟩
          exact rfl
      · rw [hks]
        have h3 := consT_len t
        obtain ⟨q0, qs, hqq⟩ := consT_pos ht0 ht5
        have hat : ∀ q ∈ consT t, ∃ fs, (q.1, fs) ∈ wCons t ∧ fs.length = q.2.length := fun q hq => consT_at hq
        rw [hqq] at h3 hat ⊢
        have h56 : ∀ q ∈ q0 :: qs, ACall Tryd.prog n_cover_useful_2 (eCon q :: [.ptr [wFn F b l r]]) (.sb (withinP n l r (.con q.1 q.2.length))) := fun q hq => by
          obtain ⟨fs, hfs, hfl⟩ := hat q hq
          have hw := win (.con t q.1 fs hfs) (fun y hy => by rw [← parts_cons hy]; exact h.con hfs (let ⟨q, a, b⟩ := hh; ⟨q, by simp [a], b⟩))
          rw [hfl] at hw
          have e1 : ((Kn.many (.con q.1 q.2.length) : Nat) : Int) = ((eTys q.2).length : Nat) := by rw [lenT]; rfl
          rw [e1] at hw
          refine acall_of_wcx ttok mixed Tryd.func90 rfl (by rfl) (Nat.le_of_ble_eq_true rfl) (by kernel_rfl) ?_
          refine .inl ⟨_, ofCon_ok q.1 q.2.length, ?_⟩
          refine .inl ⟨_, hw, ?_⟩
          exact ⟨by kernel_rfl, rfl⟩
        have hF := containsCon_ok (q0 :: qs) n_cover_useful_2 [.ptr [wFn F b l r]] (fun q => withinP n l r (.con q.1 q.2.length)) (by omega) h56
        refine .inl ?_
        refine .inl ⟨_, hF, ?_⟩
        exact rfl

theorem Useless_ok {t : Nat} {l : List Pt} (h : PatsOk t l) : ACall Tryd.prog n_cover_Useless [cAV, .sl (ePts l)] (.sl (eIs (uslOf l))) := by
  have hl := h.2.1
  have h1 := rows_ok l (by omega)
  have hlen := rowsFrom_len l 0
  have hat := fun (k : Nat) (hk : k < (rowsFrom 0 l).length) => useful_ok 0 (fun _ => 0) 300 ((rowsFrom 0 l).take k) (rowsFrom 0 l)[k] [t] (h.at hk)
  unfold uslOf
  have hpl := lenP l
  refine acall_of_wcx ttok mixed Tryd.func22 rfl (by rfl) (Nat.le_of_ble_eq_true rfl) (by kernel_rfl) ?_
  refine .inl ⟨_, h1, ?_⟩
  rw [← hlen] at hl ⊢
  generalize rowsFrom 0 l = rows at *
  have hrl := lenRw 0 (fun _ => 0) rows
  refine ⟨{i : Nat // i ≤ rows.length}, fun i => { vs := [(0, .v cAV), (5, .v (.sl (eIs (usl rows i.1)))), (6, .v (.sl (eRws 0 (fun _ => 0) rows))), (11, .v (.sl (eRws 0 (fun _ => 0) rows))), (12, sv (rows.length : Nat)), (13, sv (i.1 : Nat))], ow := [(5, 0, 2)] },
    fun i => rows.length - i.1, ⟨0, Nat.zero_le _⟩, ⟨⟨rfl, rfl, rfl, rfl, svc (by rw [hrl]), rfl, trivial⟩, ⟨trivial, trivial⟩, rfl⟩, ?_⟩
  rintro ⟨i, hi⟩
  refine ⟨fun h1 => ?_, fun h1 => ?_⟩
  · have h2 : i < rows.length := by have h1 := of_decide_eq_true h1; simp only at h1; omega
    have hN := hat i h2
    have e1 : List.drop (Int.toNat 0) (List.take (Int.toNat (i : Int)) (eRws 0 (fun _ => 0) rows)) = eRws 0 (fun _ => 0) (rows.take i) := by simp [eRws]
    have hu := usl_le rows i
    have hst : usl rows (i + 1) = usl rows i ++ if fresh 300 (rows.take i) rows[i] = true then [] else [((i : Nat) : Int)] := by
      rw [usl, List.getElem?_eq_getElem h2]
    refine ⟨_, by omega, getRw h2, rfl, ?_⟩
    refine ⟨by decide, Int.natCast_nonneg _, by rw [hrl]; simp only; omega, rfl, .inl rfl, ?_⟩
    rw [← e1] at hN
    refine .inl ⟨_, hN, ?_⟩
    cases hf : fresh 300 (rows.take i) rows[i] with
    | false =>
      rw [hf] at hst
      refine ⟨by kernel_rfl, ?_⟩
      refine ⟨fun hbs => ?_, fun hbs => ?_⟩ <;> first | (exfalso; revert hbs; simp [Kn.form]; done) | skip
      refine ⟨by rw [lenI]; simp; omega, uniI _, uniI [(i : Int)], ?_⟩
      refine ⟨⟨i + 1, h2⟩, by simp; omega, ⟨rfl, ?_, rfl, rfl, rfl, svc (wrap_succ (k := i) (by omega)), trivial⟩, ⟨rfl, trivial⟩, rfl⟩
      show SV.v (AV.sl (eIs (usl rows i) ++ [.lit (.int .i64 (i : Nat))])) = SV.v (AV.sl (eIs (usl rows (i + 1))))
      rw [hst]; simp [eIs]
    | true =>
      rw [hf] at hst
      refine ⟨by kernel_rfl, ?_⟩
      refine ⟨fun hbs => ?_, fun hbs => ?_⟩ <;> first | (exfalso; revert hbs; simp [Kn.form]; done) | skip
      refine ⟨⟨i + 1, h2⟩, by simp; omega, ⟨rfl, ?_, rfl, rfl, rfl, svc (wrap_succ (k := i) (by omega)), trivial⟩, ⟨rfl, trivial⟩, rfl⟩
      show SV.v (AV.sl (eIs (usl rows i))) = SV.v (AV.sl (eIs (usl rows (i + 1))))
      rw [hst]; simp
  · have h1 : i = rows.length := by have h1 := of_decide_eq_false h1; simp only at h1; omega
    subst h1
    exact rfl
end Go.Proofs.YtefdahofpjmnfaaDoor

namespace Go.Proofs.YtefdahofpjmnfaaDoor
open Go Fp
set_option maxRecDepth 10000
set_option maxHeartbeats 16000000

theorem uslOf_le (l : List Pt) : (uslOf l).length ≤ l.length := usl_le _ _

end Go.Proofs.YtefdahofpjmnfaaDoor

namespace Go.Proofs.YtefdahofpjmnfaaDoor
open Go Fp
set_option maxRecDepth 10000
set_option maxHeartbeats 16000000

theorem tk_app (l m : List Rw) (vs : List Vl) : tk (l ++ m) vs = (tk l vs || tk m vs) := by unfold tk; rw [List.any_append]
theorem tk_sub {l m : List Rw} {vs : List Vl} (h : ∀ r ∈ l, r ∈ m) (ht : tk l vs = true) : tk m vs = true := by
  unfold tk at *
  rw [List.any_eq_true] at *
  obtain ⟨r, hr, h2⟩ := ht
  exact ⟨r, h r hr, h2⟩

theorem whole_of {t : Nat} {ps : List Pt} (h : PatsOk t ps) (hm : missOf ps = none) {vs : List Vl} (hv : TyVs [t] vs) : tk (rowsFrom 0 ps) vs = true :=
  miss_whole 300 (rowsFrom 0 ps) [t] h.all hm vs hv

theorem full_miss {t : Nat} {ps : List Pt} {x : Pt} (h : PatsOk t ps) (hx : PatsOk t (ps ++ [x])) (hm : missOf ps = none) : missOf (ps ++ [x]) = none := by
  cases hq : missOf (ps ++ [x]) with
  | none => rfl
  | some m =>
    exfalso
    obtain ⟨vs, h1, h2⟩ := miss_val 300 _ [t] m hx.all hq
    have h3 := miss_sound 300 _ [t] m hx.all hq vs h2
    have h4 := whole_of h hm h1
    rw [rowsFrom_app] at h3
    rw [tk_app, h4] at h3
    cases h3

theorem full_last {t : Nat} {ps : List Pt} {x : Pt} (h : PatsOk t ps) (hx : PatsOk t (ps ++ [x])) (hm : missOf ps = none) : ∃ u, uslOf (ps ++ [x]) = u ++ [((ps.length : Nat) : Int)] ∧ u.length ≤ ps.length := by
  have hlen : (rowsFrom 0 (ps ++ [x])).length = ps.length + 1 := by rw [rowsFrom_len]; simp
  have hk : ps.length < (rowsFrom 0 (ps ++ [x])).length := by omega
  have htk : (rowsFrom 0 (ps ++ [x])).take ps.length = rowsFrom 0 ps := by rw [rowsFrom_take, List.take_left]
  have hat := hx.at hk
  have hf : fresh 300 ((rowsFrom 0 (ps ++ [x])).take ps.length) (rowsFrom 0 (ps ++ [x]))[ps.length] = false := by
    cases hq : fresh 300 ((rowsFrom 0 (ps ++ [x])).take ps.length) (rowsFrom 0 (ps ++ [x]))[ps.length] with
    | false => rfl
    | true =>
      exfalso
      obtain ⟨vs, h1, _, h3⟩ := fresh_yes 300 _ _ [t] hat hq
      rw [htk, whole_of h hm h1] at h3
      cases h3
  refine ⟨usl (rowsFrom 0 (ps ++ [x])) ps.length, ?_, usl_le _ _⟩
  unfold uslOf
  rw [List.length_append, List.length_singleton, usl, List.getElem?_eq_getElem hk]
  simp only [hf]
  rfl

theorem takeLast {u : List Int} {k : Int} : (eIs (u ++ [k]))[u.length]? = some (.lit (.int .i64 k)) := by simp [eIs]

end Go.Proofs.YtefdahofpjmnfaaDoor

namespace Go.Proofs.YtefdahofpjmnfaaDoor
open Go Fp
set_option maxRecDepth 10000
set_option maxHeartbeats 16000000

namespace Vl
mutual
def eKids : Vl → List AV
  | mk _ _ _ k => eList k
def eList : List Vl → List AV
  | [] => []
  | v :: r => .agg [.lit (.int .i64 v.f), .lit (.int .i64 v.n), .lit (.string v.s), .sl v.eKids] :: eList r
end
end Vl
def eVl (v : Vl) : AV := .agg [.lit (.int .i64 v.f), .lit (.int .i64 v.n), .lit (.string v.s), .sl v.eKids]
def eVls (l : List Vl) : List AV := l.map eVl
theorem Vl.eList_eq : ∀ l : List Vl, Vl.eList l = eVls l
  | [] => by simp [Vl.eList, eVls]
  | p :: r => by simp [Vl.eList, eVls, eVl, Vl.eList_eq r]
theorem Vl.eKids_eq (v : Vl) : v.eKids = eVls v.k := by cases v; simp [Vl.eKids, Vl.eList_eq, Vl.k]
theorem uniV (l : List Vl) : Uni 4 (eVls l) := uniMap (f := eVl) (n := 4) (fun _ => rfl) l
theorem getV {l : List Vl} {k : Nat} (h : k < l.length) : (eVls l)[k]? = some (eVl l[k]) := getM h
theorem lenV (l : List Vl) : (eVls l).length = l.length := by simp [eVls]

theorem kids_sz (p : Pt) : p.k.length < p.sz := by
  have : ∀ l : List Pt, l.length ≤ szL l := fun l => by
    induction l with
    | nil => simp [szL]
    | cons x l ih => have : 0 < x.sz := by cases x; simp only [Pt.sz]; omega
                     simp only [szL, List.length_cons]; omega
  have h1 := this p.k
  cases p; simp only [Pt.k, Pt.sz] at *; omega

theorem takesL_all : ∀ {ps : List Pt} {vs : List Vl}, ps.length = vs.length → (takesL ps vs = true ↔ ∀ (j : Nat) (h1 : j < ps.length) (h2 : j < vs.length), takes ps[j] vs[j] = true)
  | [], [], _ => ⟨fun _ j h1 => by simp at h1, fun _ => by rw [takesL]⟩
  | p :: ps, v :: vs, h => by
    rw [takesL, Bool.and_eq_true, takesL_all (by simpa using h)]
    refine ⟨fun ⟨a, b⟩ j h1 h2 => ?_, fun a => ⟨a 0 (by simp) (by simp), fun j h1 h2 => a (j + 1) (by simp; omega) (by simp; omega)⟩⟩
    match j with
    | 0 => exact a
    | j + 1 => exact b j (by simpa using h1) (by simpa using h2)
  | [], _ :: _, h => by simp at h
  | _ :: _, [], h => by simp at h

theorem equalFunc_ok (ps : List Pt) (vs : List Vl) (hl : ps.length < 10000) (ht : ∀ p ∈ ps, ∀ v, ACall Tryd.prog n_cover_Takes [ePt p, eVl v] (.sb (takes p v))) :
    ACall Tryd.prog n_slices_EqualFunc_apiPatapiValueapiPatapiValue [.sl (ePts ps), .sl (eVls vs), .lit (fnv n_cover_Takes)] (.sb (takesL ps vs)) := by
  have h1 := lenP ps
  have h2 := lenV vs
  refine acall_of_wcx ttok mixed Tryd.func87 rfl (by rfl) (Nat.le_of_ble_eq_true rfl) (by kernel_rfl) ?_
  by_cases hn : ps.length = vs.length
  · have hne : ((ePts ps).length : Int) = ((eVls vs).length : Int) := by rw [h1, h2, hn]
    refine ⟨fun h => by simp [hne] at h, fun _ => ?_⟩
    refine ⟨{k : Nat // k ≤ ps.length ∧ ∀ (j : Nat) (h1 : j < ps.length) (h2 : j < vs.length), j < k → takes ps[j] vs[j] = true}, fun k => { vs := [(1, .v (.sl (eVls vs))), (2, .v (.lit (fnv n_cover_Takes))), (15, .v (.sl (ePts ps))), (16, sv (ps.length : Nat)), (17, sv (k.1 : Nat))] },
      fun k => ps.length - k.1, ⟨0, Nat.zero_le _, fun j _ _ h => by omega⟩, ⟨⟨rfl, rfl, rfl, svc (by rw [h1]), rfl, trivial⟩, trivial, rfl⟩, ?_⟩
    rintro ⟨k, hk, hinv⟩
    refine ⟨fun h => ?_, fun h => ?_⟩
    · have h : k < ps.length := by have h := of_decide_eq_true h; simp only at h; omega
      have h' : k < vs.length := by omega
      have hc := ht ps[k] (List.getElem_mem h) vs[k]
      refine ⟨_, by omega, getP h, rfl, ?_⟩
      refine ⟨_, by omega, getV h', rfl, ?_⟩
      refine .inl ⟨_, hc, ?_⟩
      cases hx : takes ps[k] vs[k] with
      | false =>
        refine ⟨fun hbs => ?_, fun hbs => ?_⟩ <;> first | (exfalso; revert hbs; simp [Kn.form]; done) | skip
        have e : takesL ps vs = false := by
          cases he : takesL ps vs with
          | false => rfl
          | true => have := (takesL_all hn).1 he k h h'; rw [hx] at this; cases this
        rw [e]; exact rfl
      | true =>
        refine ⟨fun hbs => ?_, fun hbs => ?_⟩ <;> first | (exfalso; revert hbs; simp [Kn.form]; done) | skip
        refine ⟨⟨k + 1, h, fun j hj1 hj2 hj => ?_⟩, by simp; omega, ⟨rfl, rfl, rfl, rfl, svc (wrap_succ (k := k) (by omega)), trivial⟩, trivial, rfl⟩
        rcases Nat.lt_or_ge j k with hlt | hge
        · exact hinv j hj1 hj2 hlt
        · have : j = k := by omega
          subst this; exact hx
    · have h : k = ps.length := by have h := of_decide_eq_false h; simp only at h; omega
      rw [(takesL_all hn).2 (fun j hj1 hj2 => hinv j hj1 hj2 (by omega))]
      exact rfl
  · have hne : ¬ ((ePts ps).length : Int) = ((eVls vs).length : Int) := by rw [h1, h2]; omega
    refine ⟨fun _ => ?_, fun h => by simp [hne] at h⟩
    have e : takesL ps vs = false := by
      cases he : takesL ps vs with
      | false => rfl
      | true => exact absurd (takesL_len he) hn
    rw [e]; exact rfl

theorem Takes_ok : ∀ (n : Nat) (p : Pt) (v : Vl), p.sz ≤ n → n < 10000 → ACall Tryd.prog n_cover_Takes [ePt p, eVl v] (.sb (takes p v)) := by
  intro n
  induction n with
  | zero => intro p v h; have := kids_sz p; omega
  | succ n ih =>
    intro p v h hn
    have hks := kids_sz p
    have hE := equalFunc_ok p.k v.k (by omega) (fun q hq w => ih q w (by have := sz_kid hq; omega) (by omega))
    rw [← p.eKids_eq, ← v.eKids_eq] at hE
    rw [takes_eq]
    refine acall_of_wcx ttok mixed Tryd.func58 rfl (by rfl) (Nat.le_of_ble_eq_true rfl) (by kernel_rfl) ?_
    by_cases h1 : p.f = 1
    · refine ⟨fun hbs => ?_, fun hbs => ?_⟩ <;> first | (exfalso; revert hbs; (simp [h1]); done) | skip
      simp only [h1]; exact rfl
    by_cases h2 : p.f = 2
    · refine ⟨fun hbs => ?_, fun hbs => ?_⟩ <;> first | (exfalso; revert hbs; (simp [h1]); done) | skip
      refine ⟨fun hbs => ?_, fun hbs => ?_⟩ <;> first | (exfalso; revert hbs; (simp [h2]); done) | skip
      simp only [h2]; exact rfl
    refine ⟨fun hbs => ?_, fun hbs => ?_⟩ <;> first | (exfalso; revert hbs; (simp [h1]); done) | skip
    refine ⟨fun hbs => ?_, fun hbs => ?_⟩ <;> first | (exfalso; revert hbs; (simp [h2]); done) | skip
    by_cases h3 : p.f = 3
    · refine ⟨fun hbs => ?_, fun hbs => ?_⟩ <;> first | (exfalso; revert hbs; (simp [h3]); done) | skip
      simp only [h3, Int.reduceEq, decide_false, decide_true, Bool.false_or, Bool.true_and, Bool.false_and, Bool.or_false]
      refine ⟨fun h => ?_, fun h => ?_⟩
      · rw [h, Bool.true_and]; exact rfl
      · have h : decide (v.f = 2) = false := h
        rw [h, Bool.false_and]; exact rfl
    refine ⟨fun hbs => ?_, fun hbs => ?_⟩ <;> first | (exfalso; revert hbs; (simp [h3]); done) | skip
    by_cases h4 : p.f = 4
    · refine ⟨fun hbs => ?_, fun hbs => ?_⟩ <;> first | (exfalso; revert hbs; (simp [h4]); done) | skip
      simp only [h4, Int.reduceEq, decide_false, decide_true, Bool.false_or, Bool.true_and, Bool.false_and, Bool.or_false]
      refine ⟨fun h => ?_, fun h => ?_⟩
      · rw [h, Bool.true_and]
        refine ⟨fun h => ?_, fun h => ?_⟩
        · rw [h, Bool.true_and]
          refine .inl ⟨_, hE, ?_⟩
          exact rfl
        · have h : decide (v.s = p.s) = false := h
          rw [h, Bool.false_and]; exact rfl
      · have h : decide (v.f = 1) = false := h
        rw [h, Bool.false_and, Bool.false_and]
        exact rfl
    refine ⟨fun hbs => ?_, fun hbs => ?_⟩ <;> first | (exfalso; revert hbs; (simp [h4]); done) | skip
    simp only [h1, h2, h3, h4, decide_false, Bool.false_or, Bool.false_and]
    exact rfl

theorem First_ok (l : List Pt) (v : Vl) (hl : l.length < 10000) (hs : ∀ p ∈ l, p.sz < 10000) : ACall Tryd.prog n_cover_First [.sl (ePts l), eVl v] (.lit (.int .i64 (first_place l fun p => takes p v).choose)) := by
  have hi := (first_place l fun p => takes p v).choose_spec.1
  generalize (first_place l fun p => takes p v).choose = i at hi ⊢
  have h38 : ∀ p ∈ l, ACall Tryd.prog n_cover_First_1 (ePt p :: [.ptr (eVl v).cells]) (.sb (takes p v)) := fun p hp => by
    have := Takes_ok p.sz p v (Nat.le_refl _) (hs p hp)
    refine acall_of_wcx ttok mixed Tryd.func57 rfl (by rfl) (Nat.le_of_ble_eq_true rfl) (by kernel_rfl) ?_
    exact .inl ⟨_, this, rfl⟩
  have hI : ACall Tryd.prog n_slices_IndexFunc_apiPatapiPat [.sl (ePts l), .fn (.func n_cover_First_1) [] [.ptr (eVl v).cells]] (.lit (.int .i64 i)) := by
    refine acall_of_wcx ttok mixed Tryd.func27 rfl (by rfl) (Nat.le_of_ble_eq_true rfl) (by kernel_rfl) ?_
    refine ⟨{k : Nat // k ≤ l.length ∧ ∀ j (hj : j < l.length), j < k → takes l[j] v = false}, fun k => { vs := [(0, .v (.sl (ePts l))), (1, .v (.fn (.func n_cover_First_1) [] [.ptr (eVl v).cells])), (6, .v (.sl (ePts l))), (7, sv (l.length : Nat)), (8, sv (k.1 : Nat))] },
      fun k => l.length - k.1, ⟨0, Nat.zero_le _, fun j hj h => by omega⟩, ⟨⟨rfl, rfl, rfl, svc (by rw [lenP]), rfl, trivial⟩, trivial, rfl⟩, ?_⟩
    rintro ⟨k, hk, hinv⟩
    refine ⟨fun h => ?_, fun h => ?_⟩
    · have h : k < l.length := by have h := of_decide_eq_true h; simp only at h; omega
      have hc := h38 l[k] (List.getElem_mem h)
      refine ⟨_, by omega, getP h, rfl, ?_⟩
      refine .inl ⟨_, hc, ?_⟩
      refine ⟨fun h2 => ?_, fun h2 => ?_⟩
      · have hi' : i = k := by
          rcases hi with ⟨k', rfl, h3, h4, h5⟩ | ⟨_, h3⟩
          · rcases Nat.lt_trichotomy k k' with q | q | q
            · have := h5 k h q; rw [h2] at this; cases this
            · rw [q]
            · have := hinv k' h3 q; rw [h4] at this; cases this
          · have := h3 _ (List.getElem_mem h); rw [h2] at this; cases this
        subst hi'
        exact rfl
      · refine ⟨⟨k + 1, h, fun j hjl hj => ?_⟩, by simp; omega, ⟨rfl, rfl, rfl, rfl, svc (wrap_succ (k := k) (by omega)), trivial⟩, trivial, rfl⟩
        rcases Nat.lt_or_ge j k with hlt | hge
        · exact hinv j hjl hlt
        · have : j = k := by omega
          subst this; exact h2
    · have h : k = l.length := by have h := of_decide_eq_false h; simp only at h; omega
      have hi' : i = -1 := by
        rcases hi with ⟨k', rfl, h3, h4, h5⟩ | ⟨h3, _⟩
        · have := hinv k' h3 (by omega); rw [h4] at this; cases this
        · exact h3
      subst hi'
      exact rfl
  refine acall_of_wcx ttok mixed Tryd.func18 rfl (by rfl) (Nat.le_of_ble_eq_true rfl) (by kernel_rfl) ?_
  refine .inl ?_
  refine .inl ⟨_, hI, ?_⟩
  exact rfl
end Go.Proofs.YtefdahofpjmnfaaDoor
