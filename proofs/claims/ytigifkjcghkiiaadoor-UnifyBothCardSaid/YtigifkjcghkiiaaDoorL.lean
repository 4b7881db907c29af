/- Which types in the place of names make a type another one: the code's walk over both, a slice of a known block filled on the way. -/
import Derived.Test.YtigifkjcghkiiaaDoorK
set_option linter.unusedSimpArgs false
set_option linter.unusedVariables false
namespace Go.Proofs.YtigifkjcghkiiaaDoor
open Go Fp
set_option maxRecDepth 10000
set_option maxHeartbeats 16000000
set_option linter.unusedVariables false
set_option linter.unusedSimpArgs false

theorem ixI_in {α : Type} [DecidableEq α] {l : List α} {s : α} (h : memb s l = true) : ∃ k : Nat, ixI l s = (k : Int) ∧ ∃ hk : k < l.length, l[k] = s := by
  have hm := memb_iff.1 h
  refine ⟨l.idxOf s, by rw [ixI, if_pos hm], List.idxOf_lt_length_iff.2 hm, List.getElem_idxOf _⟩

abbrev Put := List (Option Tp)
/-- Place by place: is it so, and what is put then. -/
def mtF (ns : List ByteArray) : Tp → Tp → Put → Bool × Put
  | .var x, t, l => if memb x ns = true then (match l[(ixI ns x).toNat]? with
    | some (some u) => (smb u t [] [], l)
    | _ => (true, l.set (ixI ns x).toNat (some t))) else (decide (Tp.var x = t), l)
  | .app a b, .app c d, l => if (mtF ns a c l).1 then mtF ns b d (mtF ns a c l).2 else (false, (mtF ns a c l).2)
  | p, t, l => (decide (p = t), l)
theorem mtF_length (ns : List ByteArray) : ∀ (p t : Tp) (l : Put), (mtF ns p t l).2.length = l.length
  | .var x, t, l => by
    unfold mtF; split
    · split
      · rfl
      · simp
    · rfl
  | .app a b, .app c d, l => by
    unfold mtF; split
    · rw [mtF_length, mtF_length]
    · exact mtF_length ns a c l
  | .app a b, .no, l => rfl
  | .app a b, .mt _, l => rfl
  | .app a b, .var _, l => rfl
  | .app a b, .con _, l => rfl
  | .app a b, .all _ _, l => rfl
  | .no, _, _ => rfl
  | .mt _, _, _ => rfl
  | .con _, _, _ => rfl
  | .all _ _, _, _ => rfl

def cl : Option Tp → List AV
  | none => [.lit (.int .i64 0), .lit (.int .i64 0), .lit (.string .empty), .sl []]
  | some t => [.lit (.int .i64 t.form), .lit (.int .i64 t.num), .lit (.string t.nam), .sl t.eArgs]
def cel (l : Put) : List AV := l.flatMap cl
theorem cl_length (o : Option Tp) : (cl o).length = 4 := by cases o <;> rfl
theorem cel_length (l : Put) : (cel l).length = l.length * 4 := by
  induction l with
  | nil => rfl
  | cons o l ih => simp only [cel, List.flatMap_cons, List.length_append, cl_length, List.length_cons] at *; omega
theorem cel_drop {l : Put} {k : Nat} (h : k < l.length) : (cel l).drop (k * 4) = cl l[k] ++ cel (l.drop (k + 1)) := by
  induction l generalizing k with
  | nil => simp at h
  | cons o l ih =>
    cases k with
    | zero => simp [cel]
    | succ k =>
      have e : cel (o :: l) = cl o ++ cel l := rfl
      have hc := cl_length o
      rw [e, List.drop_append, List.drop_eq_nil_of_le (by omega), List.nil_append, show (k + 1) * 4 - (cl o).length = k * 4 by omega]
      exact ih (by simpa using h)
theorem cel_take {l : Put} {k : Nat} : (cel l).take (k * 4) = cel (l.take k) := by
  induction l generalizing k with
  | nil => simp [cel]
  | cons o l ih =>
    cases k with
    | zero => simp [cel]
    | succ k =>
      have e : cel (o :: l) = cl o ++ cel l := rfl
      have hc := cl_length o
      rw [e, List.take_append, List.take_of_length_le (by omega), show (k + 1) * 4 - (cl o).length = k * 4 by omega, ih]
      rfl
theorem cel_at {l : Put} {k j : Nat} (h : k < l.length) (hj : j < 4) : (cel l)[k * 4 + j]? = (cl l[k])[j]? := by
  have h1 : (cel l)[k * 4 + j]? = ((cel l).drop (k * 4))[j]? := by rw [List.getElem?_drop]
  rw [h1, cel_drop h, List.getElem?_append_left (by rw [cl_length]; exact hj)]
theorem cel_set {l : Put} {k : Nat} (h : k < l.length) (o : Option Tp) : setAt (cel l) (k * 4) (cl o) = cel (l.set k o) := by
  unfold setAt
  rw [cel_take, cl_length, show k * 4 + 4 = (k + 1) * 4 by omega]
  have : (cel l).drop ((k + 1) * 4) = cel (l.drop (k + 1)) := by
    have h1 : (cel l).drop ((k + 1) * 4) = ((cel l).drop (k * 4)).drop 4 := by rw [List.drop_drop]; congr 1; omega
    rw [h1, cel_drop h, List.drop_append, cl_length, List.drop_eq_nil_of_le (by rw [cl_length]; omega)]; rfl
  rw [this, List.set_eq_take_append_cons_drop, if_pos h]
  simp [cel]

abbrev slV (b n : Nat) : AV := .lit (.slice (some ⟨b, 0, none⟩) n n)
abbrev plH (b : Nat) (l : Put) : List (Nat × HO) := [(b, HO.cells (cel l))]
def WfP (l : Put) : Prop := ∀ u, some u ∈ l → good u ∧ u.sz < 1000000
theorem mtF_wf (ns : List ByteArray) : ∀ (p t : Tp) (l : Put), good t → t.sz < 1000000 → WfP l → WfP (mtF ns p t l).2
  | .var x, t, l, hg, hz, h => by
    unfold mtF; split
    · split
      · exact h
      · intro u hu
        rcases List.mem_or_eq_of_mem_set hu with hu | hu
        · exact h u hu
        · injection hu with hu; subst hu; exact ⟨hg, hz⟩
    · exact h
  | .app a b, .app c d, l, hg, hz, h => by
    simp only [Tp.sz] at hz
    unfold mtF; split
    · exact mtF_wf ns b d _ hg.2 (by omega) (mtF_wf ns a c l hg.1 (by omega) h)
    · exact mtF_wf ns a c l hg.1 (by omega) h
  | .app a b, .no, l, _, _, h => h
  | .app a b, .mt _, l, _, _, h => h
  | .app a b, .var _, l, _, _, h => h
  | .app a b, .con _, l, _, _, h => h
  | .app a b, .all _ _, l, _, _, h => h
  | .no, _, _, _, _, h => h
  | .mt _, _, _, _, _, h => h
  | .con _, _, _, _, _, h => h
  | .all _ _, _, _, _, _, h => h
def MatchOk (ns : List ByteArray) (p t : Tp) : Prop := ∀ (b : Nat) (l : Put), l.length = ns.length → WfP l → CallsG Tryd.prog (fnv n_unify_match) (plH b l) [.sl (eSs ns), eTy p, eTy t, slV b ns.length] [] fun r o h => r = .sb (mtF ns p t l).1 ∧ o = 0 ∧ h = plH b (mtF ns p t l).2
theorem good_form {u : Tp} (h : good u) : u.form ≠ 0 := by cases u <;> simp [Tp.form, good] at h ⊢

theorem match_var {ns : List ByteArray} (hn : ns.length < 1000000) (x : ByteArray) (hnm : memb x ns = true) (t : Tp) : MatchOk ns (.var x) t := fun b l hl hw => by
  have hix := index_ok (l := ns) (s := x) (by omega)
  refine CallsG.less0 (post := fun r o h => r = .sb (mtF ns (.var x) t l).1 ∧ h = plH b (mtF ns (.var x) t l).2) ?_ (fun r o h hp => ⟨h, [], by simp, hp.1, rfl, hp.2⟩)
  unfold mtF
  by_cases hx : memb x ns = true
  · obtain ⟨k, hk, hkl, _⟩ := ixI_in hx
    rw [hk] at hix
    rw [if_pos hx, hk, Int.toNat_natCast]
    have hkl : k < l.length := by omega
    have c0 := cel_at (j := 0) hkl (by decide)
    have cs := cel_set hkl (some t)
    have cd := cel_drop hkl
    have hlen := cel_length l
    rw [← Nat.zero_add (k * 4)] at c0 cs cd
    rw [List.getElem?_eq_getElem hkl]
    cases hlk : l[k] with
    | none =>
      rw [hlk] at c0
      refine callsG_of_wcx (first := []) (cap := []) ttok mixed Tryd.func53 rfl (by rfl) rfl (Nat.le_of_ble_eq_true rfl) (by kernel_rfl) ?_
      refine .inl ⟨_, hix, ?_⟩
      refine ⟨fun hbs => ?_, fun hbs => ?_⟩ <;> first | (exfalso; revert hbs; (simp); done) | skip
      refine ⟨fun hbs => ?_, fun hbs => ?_⟩ <;> first | (exfalso; revert hbs; (simp [Tp.form]); done) | skip
      refine ⟨by omega, by omega, ?_⟩
      refine ⟨0, _, _, rfl, c0, ?_⟩
      refine ⟨fun hbs => ?_, fun hbs => ?_⟩ <;> first | (exfalso; revert hbs; (simp); done) | skip
      refine .inl ⟨_, appT_ok t [] (by decide), ?_⟩
      refine ⟨by omega, by omega, ?_⟩
      refine ⟨rfl, 0, _, rfl, ?_, ?_⟩
      · show 0 + k * 4 + 4 ≤ (cel l).length
        omega
      exact ⟨rfl, congrArg (fun c => [(b, HO.cells c)]) cs⟩
    | some u =>
      rw [hlk] at c0 cd
      obtain ⟨gu, zu⟩ := hw u (hlk ▸ List.getElem_mem hkl)
      have hf := good_form gu
      have hS : ACall Tryd.prog n_types_Same [wk (.agg (((cel l).drop (0 + k * 4)).take 4)), eTy t] (.sb (smb u t [] [])) := by
        rw [cd]; exact sameT_ok u t (by omega)
      refine callsG_of_wcx (first := []) (cap := []) ttok mixed Tryd.func53 rfl (by rfl) rfl (Nat.le_of_ble_eq_true rfl) (by kernel_rfl) ?_
      refine .inl ⟨_, hix, ?_⟩
      refine ⟨fun hbs => ?_, fun hbs => ?_⟩ <;> first | (exfalso; revert hbs; (simp); done) | skip
      refine ⟨fun hbs => ?_, fun hbs => ?_⟩ <;> first | (exfalso; revert hbs; (simp [Tp.form]); done) | skip
      refine ⟨by omega, by omega, ?_⟩
      refine ⟨0, _, _, rfl, c0, ?_⟩
      refine ⟨fun hbs => ?_, fun hbs => ?_⟩ <;> first | (exfalso; revert hbs; (simp [hf]); done) | skip
      refine ⟨by omega, by omega, ?_⟩
      refine ⟨0, _, rfl, ?_, ?_⟩
      · show 0 + k * 4 + 4 ≤ (cel l).length
        omega
      refine .inl ⟨_, hS, ?_⟩
      refine ⟨by kernel_rfl, ?_⟩
      exact ⟨rfl, rfl⟩
  · exact (hx hnm).elim

theorem mtF_apart {ns : List ByteArray} {p t : Tp} {l : Put} (hp : ∀ x, p = .var x → memb x ns = false) (h : p.form ≠ t.form ∨ p.nam ≠ t.nam ∨ p.num ≠ t.num) : mtF ns p t l = (false, l) := by
  have hne : p ≠ t := fun e => by subst e; simp at h
  cases p with
  | var x => unfold mtF; rw [if_neg (by rw [hp x rfl]; simp), decide_eq_false hne]
  | app a b =>
    cases t with
    | app c d => simp [Tp.form, Tp.nam, Tp.num] at h
    | _ => show (decide _, l) = _; rw [decide_eq_false hne]
  | _ => show (decide _, l) = _; rw [decide_eq_false hne]
theorem mtF_leaf {ns : List ByteArray} {p t : Tp} {l : Put} (hp : ∀ x, p = .var x → memb x ns = false) (hf : flat p) (ha : ∀ a b, p ≠ .app a b) (h1 : p.form = t.form) (h2 : p.nam = t.nam) (h3 : p.num = t.num) : mtF ns p t l = (true, l) ∧ p.args = [] ∧ t.args = [] := by
  cases p with
  | app a b => exact absurd rfl (ha a b)
  | all s a => exact hf.elim
  | var x =>
    obtain ⟨y, rfl⟩ := Tp.is_var (t := t) h1.symm
    simp only [Tp.nam] at h2; subst h2
    unfold mtF; rw [if_neg (by rw [hp x rfl]; simp), decide_eq_true rfl]; exact ⟨rfl, rfl, rfl⟩
  | con x =>
    obtain ⟨y, rfl⟩ := Tp.is_con (t := t) h1.symm
    simp only [Tp.nam] at h2; subst h2
    exact ⟨by show (decide _, l) = _; rw [decide_eq_true rfl], rfl, rfl⟩
  | mt x =>
    obtain ⟨y, rfl⟩ := Tp.is_mt (t := t) h1.symm
    simp only [Tp.num] at h3; subst h3
    exact ⟨by show (decide _, l) = _; rw [decide_eq_true rfl], rfl, rfl⟩
  | no =>
    cases t with
    | no => exact ⟨by show (decide _, l) = _; rw [decide_eq_true rfl], rfl, rfl⟩
    | _ => simp [Tp.form] at h1

theorem match_other {ns : List ByteArray} (hn : ns.length < 1000000) (p t : Tp) (hf : flat p) (hv : ∀ x, p = .var x → memb x ns = false) (ih : ∀ a b c d, p = .app a b → t = .app c d → MatchOk ns a c ∧ MatchOk ns b d) (gt : good t) (zt : t.sz < 1000000) : MatchOk ns p t := fun b l hl hw => by
  have hix := index_ok (l := ns) (s := p.nam) (by omega)
  refine CallsG.less0 (post := fun r o h => r = .sb (mtF ns p t l).1 ∧ h = plH b (mtF ns p t l).2) ?_ (fun r o h hp => ⟨h, [], by simp, hp.1, rfl, hp.2⟩)
  have tail : Wsem Tryd.prog (sndC (sndC (bodyC Tryd.f53))) (mkC { vs := [(0, .v (.sl (eSs ns))), (3, .v (slV b ns.length)), (5, .box 0 (eTy p)), (6, .box 0 (eTy t))], hp := plH b l })
      (fun c => RetG tt Tryd.f53.results.toList (fun r o h => r = .sb (mtF ns p t l).1 ∧ h = plH b (mtF ns p t l).2) (den c)) (fun _ _ => False) (fun c => RetG tt Tryd.f53.results.toList (fun r o h => r = .sb (mtF ns p t l).1 ∧ h = plH b (mtF ns p t l).2) (den c)) := by
    refine Wsem.of ttok mixed ?_
    by_cases h1 : p.form = t.form
    · refine ⟨fun hbs => ?_, fun hbs => ?_⟩ <;> first | (exfalso; revert hbs; (simp [h1]); done) | skip
      by_cases h2 : p.nam = t.nam
      · refine ⟨fun hbs => ?_, fun hbs => ?_⟩ <;> first | (exfalso; revert hbs; (simp [h2]); done) | skip
        by_cases h3 : p.num = t.num
        · refine ⟨fun hbs => ?_, fun hbs => ?_⟩ <;> first | (exfalso; revert hbs; (simp [h3]); done) | skip
          by_cases ha : ∃ a b', p = .app a b'
          · obtain ⟨a, b', rfl⟩ := ha
            obtain ⟨c, d, rfl⟩ := Tp.is_app (t := t) h1.symm
            obtain ⟨i1, i2⟩ := ih a b' c d rfl rfl
            simp only [Tp.sz] at zt
            obtain ⟨l1, e1⟩ : ∃ l1, l1 = (mtF ns a c l).2 := ⟨_, rfl⟩
            obtain ⟨l2, e2⟩ : ∃ l2, l2 = (mtF ns b' d l1).2 := ⟨_, rfl⟩
            have hl1 : l1.length = ns.length := by rw [e1, mtF_length, hl]
            have hw1 : WfP l1 := by rw [e1]; exact mtF_wf ns a c l gt.1 (by omega) hw
            have c1 := i1 b l hl hw
            have c2 := i2 b l1 hl1 hw1
            rw [← e1] at c1
            rw [← e2] at c2
            have er : mtF ns (.app a b') (.app c d) l = if (mtF ns a c l).1 then mtF ns b' d (mtF ns a c l).2 else (false, (mtF ns a c l).2) := by rw [mtF]
            rw [← e1] at er
            obtain ⟨q1, hq1⟩ : ∃ q1, q1 = (mtF ns a c l).1 := ⟨_, rfl⟩
            obtain ⟨q2, hq2⟩ : ∃ q2, q2 = (mtF ns b' d l1).1 := ⟨_, rfl⟩
            rw [← hq1] at c1 er
            rw [← hq2] at c2
            refine ⟨{k : Nat // k ≤ 2 ∧ (1 ≤ k → q1 = true) ∧ (2 ≤ k → q2 = true)}, fun k => { vs := [(0, .v (.sl (eSs ns))), (3, .v (slV b ns.length)), (5, .box 0 (eTy (.app a b'))), (6, .box 0 (eTy (.app c d))), (60, .v (.lit (.int .i64 2))), (61, .v (.lit (.int .i64 (k.1 : Nat))))], hp := plH b (if k.1 = 0 then l else if k.1 = 1 then l1 else l2) },
              fun k => 2 - k.1, ⟨0, by omega, by omega, by omega⟩, ⟨⟨rfl, rfl, rfl, rfl, rfl, rfl, trivial⟩, trivial, rfl⟩, ?_⟩
            rintro ⟨k, hk, hk1, hk2⟩
            refine ⟨fun h => ?_, fun h => ?_⟩
            · have h : k < 2 := by have h := of_decide_eq_true h; simp only at h; omega
              match k, hk, hk1, hk2, h with
              | 0, hk, hk1, hk2, h =>
                refine ⟨eTy a, by simp, rfl, rfl, ?_⟩
                refine ⟨eTy c, by simp, rfl, rfl, ?_⟩
                refine .inr (.inr (.inr ⟨[0], plH b l, plH b l1, _, rfl, by decide, rfl, c1, ?_⟩))
                refine ⟨by kernel_rfl, ?_⟩
                refine ⟨fun h => ?_, fun h => ?_⟩
                · have h : q1 = false := by simpa using h
                  have er' : mtF ns (.app a b') (.app c d) l = (false, l1) := by rw [er, h]; rfl
                  rw [er']
                  exact ⟨rfl, rfl⟩
                · have h : q1 = true := by simpa using h
                  refine ⟨⟨1, by omega, fun _ => h, by omega⟩, by simp, ⟨rfl, rfl, rfl, rfl, rfl, rfl, trivial⟩, trivial, rfl⟩
              | 1, hk, hk1, hk2, h =>
                refine ⟨eTy b', by simp, rfl, rfl, ?_⟩
                refine ⟨eTy d, by simp, rfl, rfl, ?_⟩
                refine .inr (.inr (.inr ⟨[0], plH b l1, plH b l2, _, rfl, by decide, rfl, c2, ?_⟩))
                refine ⟨by kernel_rfl, ?_⟩
                refine ⟨fun h => ?_, fun h => ?_⟩
                · have h : q2 = false := by simpa using h
                  have er' : mtF ns (.app a b') (.app c d) l = (false, l2) := by rw [er, hk1 (by omega), if_pos rfl, e2]; exact Prod.ext (hq2.symm.trans h) rfl
                  rw [er']
                  exact ⟨rfl, rfl⟩
                · have h : q2 = true := by simpa using h
                  refine ⟨⟨2, by omega, fun _ => hk1 (by omega), fun _ => h⟩, by simp, ⟨rfl, rfl, rfl, rfl, rfl, rfl, trivial⟩, trivial, rfl⟩
              | k + 2, _, _, _, h => omega
            · have h : k = 2 := by have h := of_decide_eq_false h; simp only at h; omega
              subst h
              have er' : mtF ns (.app a b') (.app c d) l = (true, l2) := by rw [er, hk1 (by omega), if_pos rfl, e2]; exact Prod.ext (hq2.symm.trans (hk2 (by omega))) rfl
              rw [er']
              exact ⟨rfl, rfl⟩
          · obtain ⟨k1, k2, k3⟩ := mtF_leaf (l := l) hv hf (fun a b e => ha ⟨a, b, e⟩) h1 h2 h3
            have e0 : t.eArgs = [] := by rw [t.eArgs_eq, k3]; rfl
            have e00 : p.eArgs = [] := by rw [p.eArgs_eq, k2]; rfl
            refine ⟨Unit, fun _ => { vs := [(60, .v (.lit (.int .i64 0))), (61, .v (.lit (.int .i64 0)))], hp := plH b l },
              fun _ => 0, (), ⟨⟨svc (by rw [e00]; rfl), rfl, trivial⟩, trivial, rfl⟩, ?_⟩
            rintro ⟨⟩
            refine ⟨fun hbs => ?_, fun hbs => ?_⟩ <;> first | (exfalso; revert hbs; (simp); done) | skip
            rw [k1]
            exact ⟨rfl, rfl⟩
        · refine ⟨fun hbs => ?_, fun hbs => ?_⟩ <;> first | (exfalso; revert hbs; (simp [h3]); done) | skip
          rw [mtF_apart hv (.inr (.inr h3))]
          exact ⟨rfl, rfl⟩
      · refine ⟨fun hbs => ?_, fun hbs => ?_⟩ <;> first | (exfalso; revert hbs; (simp [h2]); done) | skip
        rw [mtF_apart hv (.inr (.inl h2))]
        exact ⟨rfl, rfl⟩
    · refine ⟨fun hbs => ?_, fun hbs => ?_⟩ <;> first | (exfalso; revert hbs; (simp [h1]); done) | skip
      rw [mtF_apart hv (.inl h1)]
      exact ⟨rfl, rfl⟩
  refine callsG_of_wsem (first := []) (cap := []) ttok mixed Tryd.func53 rfl (by rfl) rfl (Nat.le_of_ble_eq_true rfl) (by kernel_rfl) ?_
  refine Wsem.seq ttok mixed ?_
  refine Wsem.seq ttok mixed ?_
  refine .inl ⟨_, hix, ?_⟩
  have h0 := ixI_ge ns p.nam
  by_cases hm : memb p.nam ns = true
  · have hnv : p.form ≠ 2 := fun e => by
      obtain ⟨x, rfl⟩ := Tp.is_var (t := p) e
      rw [show memb (Tp.var x).nam ns = false from hv x rfl] at hm; cases hm
    refine ⟨fun hbs => ?_, fun hbs => ?_⟩ <;> first | (exfalso; revert hbs; (simp [h0, hm]); done) | skip
    refine ⟨fun hbs => ?_, fun hbs => ?_⟩ <;> first | (exfalso; revert hbs; (simp [hnv]); done) | skip
    refine Wsem.cut _ ?_ tail
    exact ⟨⟨rfl, rfl, rfl, rfl, trivial⟩, trivial, rfl⟩
  · refine ⟨fun hbs => ?_, fun hbs => ?_⟩ <;> first | (exfalso; revert hbs; (simp [h0, hm]); done) | skip
    refine Wsem.cut _ ?_ tail
    exact ⟨⟨rfl, rfl, rfl, rfl, trivial⟩, trivial, rfl⟩
end Go.Proofs.YtigifkjcghkiiaaDoor

namespace Go.Proofs.YtigifkjcghkiiaaDoor
open Go Fp
set_option maxRecDepth 10000
set_option maxHeartbeats 16000000
set_option linter.unusedVariables false
set_option linter.unusedSimpArgs false

theorem match_ok {ns : List ByteArray} (hn : ns.length < 1000000) : ∀ (p t : Tp), flat p → good t → t.sz < 1000000 → MatchOk ns p t
  | .var x, t, hf, gt, zt => by
    by_cases h : memb x ns = true
    · exact match_var hn x h t
    · refine match_other hn _ t hf (fun y e => ?_) (fun a b c d e => by cases e) gt zt
      injection e with e; subst e; simpa using h
  | .app a b, t, hf, gt, zt => by
    refine match_other hn _ t hf (fun y e => by cases e) (fun a' b' c d e e2 => ?_) gt zt
    injection e with e1 e3
    subst e1; subst e3; subst e2
    simp only [Tp.sz] at zt
    exact ⟨match_ok hn a c hf.1 gt.1 (by omega), match_ok hn b d hf.2 gt.2 (by omega)⟩
  | .all _ _, t, hf, gt, zt => hf.elim
  | .no, t, hf, gt, zt => match_other hn _ t hf (fun y e => by cases e) (fun a b c d e => by cases e) gt zt
  | .mt _, t, hf, gt, zt => match_other hn _ t hf (fun y e => by cases e) (fun a b c d e => by cases e) gt zt
  | .con _, t, hf, gt, zt => match_other hn _ t hf (fun y e => by cases e) (fun a b c d e => by cases e) gt zt

def pt0 (n : Nat) : Put := List.replicate n none
theorem cel_pt0 (n : Nat) : cel (pt0 n) = (List.replicate n (cl none)).flatten := by
  unfold cel pt0; rw [List.flatMap_def, List.map_replicate]
def outL (l : Put) : List Tp := l.map fun o => o.getD .no
def MatchR (ok : Bool) (l : Put) : AV := if ok then .tup [.sl (eTys (outL l)), .sb true] else .tup [.sl [], .sb false]

theorem match_pure {fv : Value} {args : List AV} {q : Bool} {l : Put} {n : Nat} (hll : l.length = n) (hc : CallsG Tryd.prog fv [] args [] fun r o h => o = 0 ∧ ∃ b, r = (if q then .tup [slV b n, .sb true] else .tup [.sl [], .sb false]) ∧ h = plH b l) : ACallV Tryd.prog fv args (MatchR q l) := by
  refine CallsG.pure hc fun r o h hp => ?_
  · obtain ⟨ho, b, rfl, rfl⟩ := hp
    refine ⟨?_, ho⟩
    unfold MatchR
    cases q with
    | false => exact .refl _
    | true =>
      refine .tup _ _ rfl fun j c c' h1 h2 => ?_
      match j, h1, h2 with
      | 0, h1, h2 =>
        injection h1 with h1; injection h2 with h2
        subst h1; subst h2
        refine .sl b 0 n n 4 (cel l) _ (by simp) (by simp [eTys, outL, hll]) (Nat.le_refl _) (fun x hx => ?_) (fun x hx c hc => ?_) (by rw [cel_length, hll]; omega) (fun i x j c c' h1 h2 h3 => ?_)
        · obtain ⟨u, _, rfl⟩ := List.mem_map.1 hx; rfl
        · obtain ⟨u, _, rfl⟩ := List.mem_map.1 hx
          simp [eTy, AV.cells] at hc
          rcases hc with rfl | rfl | rfl | rfl <;> rfl
        · have hi : i < l.length := by
            have := (List.getElem?_eq_some_iff.1 h1).1
            simpa [eTys, outL] using this
          have hj : j < 4 := by
            obtain ⟨u, _, rfl⟩ := List.mem_map.1 (List.mem_of_getElem? h1)
            exact (List.getElem?_eq_some_iff.1 h2).1
          rw [Nat.zero_add, cel_at hi hj] at h3
          have hx : x = eTy (l[i].getD .no) := by
            simp [eTys, outL, hi] at h1; exact h1.symm
          subst hx
          have : (cl l[i])[j]? = (eTy (l[i].getD .no)).cells[j]? := by cases l[i] <;> rfl
          rw [this, h2] at h3
          injection h3 with h3; subst h3
          exact .refl _
      | 1, h1, h2 =>
        injection h1 with h1; injection h2 with h2
        subst h1; subst h2; exact .refl _
      | j + 2, h1, h2 => simp at h1

theorem Match_ok {ns : List ByteArray} (hn : ns.length < 1000000) {p t : Tp} (hf : flat p) (gt : good t) (zt : t.sz < 1000000) :
    ACall Tryd.prog n_unify_Match [.sl (eSs ns), eTy p, eTy t] (MatchR (mtF ns p t (pt0 ns.length)).1 (mtF ns p t (pt0 ns.length)).2) := by
  have hM := fun b => match_ok hn p t hf gt zt b (pt0 ns.length) (by simp [pt0]) (fun u hu => by simp [pt0] at hu)
  have hlen : (eSs ns).length = ns.length := by simp [eSs]
  obtain ⟨q, hq⟩ : ∃ q, q = (mtF ns p t (pt0 ns.length)).1 := ⟨_, rfl⟩
  obtain ⟨l, hl⟩ : ∃ l, l = (mtF ns p t (pt0 ns.length)).2 := ⟨_, rfl⟩
  have hll : l.length = ns.length := by rw [hl, mtF_length]; simp [pt0]
  rw [← hq, ← hl]
  rw [← hq, ← hl] at hM
  unfold plH at hM
  rw [cel_pt0] at hM
  refine match_pure hll ?_
  · refine CallsG.less0 (post := fun r o h => ∃ b, r = (if q then .tup [slV b ns.length, .sb true] else .tup [.sl [], .sb false]) ∧ h = plH b l) ?_ (fun r o h hp => ⟨h, [], by simp, rfl, hp⟩)
    rw [← hlen] at hM ⊢
    refine callsG_of_wcx (first := []) (cap := []) ttok mixed Tryd.func25 rfl (by rfl) rfl (Nat.le_of_ble_eq_true rfl) (by kernel_rfl) ?_
    refine ⟨rfl, by omega, by omega, by omega, fun b => ?_⟩
    refine .inr (.inr (.inr (.inl ⟨[0], _, plH b l, _, rfl, by decide, rfl, hM b, ?_⟩)))
    refine ⟨fun h => ?_, fun h => ?_⟩
    · have hq0 : q = false := by simpa using h
      exact ⟨b, by rw [hq0]; rfl, rfl⟩
    · have hq0 : q = true := by simpa using h
      exact ⟨b, by rw [hq0]; rfl, rfl⟩
end Go.Proofs.YtigifkjcghkiiaaDoor

namespace Go.Proofs.YtigifkjcghkiiaaDoor
open Go Fp
set_option maxRecDepth 10000
set_option maxHeartbeats 16000000
set_option linter.unusedVariables false
set_option linter.unusedSimpArgs false

/-- What stands where a name stands first. -/
def fnd (x : ByteArray) : Tp → Tp → Option Tp
  | .var y, t => if y = x then some t else none
  | .app a b, .app c d => (fnd x a c).or (fnd x b d)
  | _, _ => none
def fndR (o : Option Tp) : AV := .tup [eTy (o.getD .no), .sb o.isSome]

theorem find_none {x : ByteArray} {p t : Tp} (hx : p ≠ .var x) (h : p.args = [] ∨ t.args = []) : ACall Tryd.prog n_fugueref09_find [.lit (.string x), eTy p, eTy t] (fndR none) := by
  have tail : Wsem Tryd.prog (sndC (sndC (bodyC Tryd.f54))) (mkC { vs := [(0, .v (.lit (.string x))), (4, .box 0 (eTy p)), (5, .box 0 (eTy t)), (6, .box 0 (eTy .no))] })
      (fun c => RetP tt Tryd.f54.results.toList (fndR none) (den c)) (fun _ _ => False) (fun c => RetP tt Tryd.f54.results.toList (fndR none) (den c)) := by
    refine Wsem.of ttok mixed ?_
    refine ⟨Unit, fun _ => { vs := [(0, .v (.lit (.string x))), (4, .box 0 (eTy p)), (5, .box 0 (eTy t)), (6, .box 0 (eTy .no)), (8, .v (.lit (.int .i64 0)))] },
      fun _ => 0, (), ⟨⟨rfl, rfl, rfl, rfl, rfl, trivial⟩, trivial, rfl⟩, ?_⟩
    rintro ⟨⟩
    have e1 : p.eArgs.length = p.args.length := by rw [p.eArgs_eq]; simp [eTys]
    have e2 : t.eArgs.length = t.args.length := by rw [t.eArgs_eq]; simp [eTys]
    by_cases h1 : p.args = []
    · refine ⟨fun hbs => ?_, fun hbs => ?_⟩ <;> first | (exfalso; revert hbs; (simp [e1, h1]); done) | skip
      exact rfl
    · have h2 := h.resolve_left h1
      have h3 : 0 < p.args.length := List.length_pos_iff.2 h1
      refine ⟨fun hbs => ?_, fun hbs => ?_⟩ <;> first | (exfalso; revert hbs; (simp [e1]; omega); done) | skip
      refine ⟨fun hbs => ?_, fun hbs => ?_⟩ <;> first | (exfalso; revert hbs; (simp [e2, h2]); done) | skip
      exact rfl
  refine acall_of_wsem ttok mixed Tryd.func54 rfl (by rfl) (Nat.le_of_ble_eq_true rfl) (by kernel_rfl) ?_
  refine Wsem.seq ttok mixed ?_
  refine Wsem.seq ttok mixed ?_
  by_cases h1 : p.form = 2
  · obtain ⟨y, rfl⟩ := Tp.is_var (t := p) h1
    have hy : y ≠ x := fun e => hx (by rw [e])
    refine ⟨fun hbs => ?_, fun hbs => ?_⟩ <;> first | (exfalso; revert hbs; (simp [Tp.form]); done) | skip
    refine ⟨fun hbs => ?_, fun hbs => ?_⟩ <;> first | (exfalso; revert hbs; (simp [Tp.nam, hy]); done) | skip
    refine Wsem.cut _ ?_ tail
    exact ⟨⟨rfl, rfl, rfl, rfl, trivial⟩, trivial, rfl⟩
  · refine ⟨fun hbs => ?_, fun hbs => ?_⟩ <;> first | (exfalso; revert hbs; (simp [h1]); done) | skip
    refine Wsem.cut _ ?_ tail
    exact ⟨⟨rfl, rfl, rfl, rfl, trivial⟩, trivial, rfl⟩
theorem find_here {x : ByteArray} {t : Tp} : ACall Tryd.prog n_fugueref09_find [.lit (.string x), eTy (.var x), eTy t] (fndR (some t)) := by
  refine acall_of_wcx ttok mixed Tryd.func54 rfl (by rfl) (Nat.le_of_ble_eq_true rfl) (by kernel_rfl) ?_
  refine ⟨fun hbs => ?_, fun hbs => ?_⟩ <;> first | (exfalso; revert hbs; (simp [Tp.form]); done) | skip
  refine ⟨fun hbs => ?_, fun hbs => ?_⟩ <;> first | (exfalso; revert hbs; (simp [Tp.nam]); done) | skip
  exact rfl
theorem find_app {x : ByteArray} {a b c d : Tp} {r1 r2 : Option Tp} (h1 : ACall Tryd.prog n_fugueref09_find [.lit (.string x), eTy a, eTy c] (fndR r1)) (h2 : ACall Tryd.prog n_fugueref09_find [.lit (.string x), eTy b, eTy d] (fndR r2)) :
    ACall Tryd.prog n_fugueref09_find [.lit (.string x), eTy (.app a b), eTy (.app c d)] (fndR (r1.or r2)) := by
  cases r1 with
  | some u =>
    refine acall_of_wcx ttok mixed Tryd.func54 rfl (by rfl) (Nat.le_of_ble_eq_true rfl) (by kernel_rfl) ?_
    refine ⟨fun hbs => ?_, fun hbs => ?_⟩ <;> first | (exfalso; revert hbs; (simp [Tp.form]); done) | skip
    refine ⟨Unit, fun k => { vs := [(0, .v (.lit (.string x))), (4, .box 0 (eTy (.app a b))), (5, .box 0 (eTy (.app c d))), (6, .box 0 (eTy .no)), (8, .v (.lit (.int .i64 0)))] },
      fun _ => 0, (), ⟨⟨rfl, rfl, rfl, rfl, rfl, trivial⟩, trivial, rfl⟩, ?_⟩
    rintro ⟨⟩
    refine ⟨fun hbs => ?_, fun hbs => ?_⟩ <;> first | (exfalso; revert hbs; (simp [Tp.eArgs]); done) | skip
    refine ⟨fun hbs => ?_, fun hbs => ?_⟩ <;> first | (exfalso; revert hbs; (simp [Tp.eArgs]); done) | skip
    refine ⟨eTy a, by simp, rfl, rfl, ?_⟩
    refine ⟨eTy c, by simp, rfl, rfl, ?_⟩
    refine .inl ⟨_, h1, ?_⟩
    refine ⟨by kernel_rfl, ?_⟩
    refine ⟨fun hbs => ?_, fun hbs => ?_⟩ <;> first | (exfalso; revert hbs; (simp); done) | skip
    exact rfl
  | none =>
    refine acall_of_wcx ttok mixed Tryd.func54 rfl (by rfl) (Nat.le_of_ble_eq_true rfl) (by kernel_rfl) ?_
    refine ⟨fun hbs => ?_, fun hbs => ?_⟩ <;> first | (exfalso; revert hbs; (simp [Tp.form]); done) | skip
    refine ⟨{k : Nat // k ≤ 2 ∧ (2 ≤ k → r2 = none)}, fun k => { vs := [(0, .v (.lit (.string x))), (4, .box 0 (eTy (.app a b))), (5, .box 0 (eTy (.app c d))), (6, .box 0 (eTy .no)), (8, .v (.lit (.int .i64 (k.1 : Nat))))] },
      fun k => 2 - k.1, ⟨0, by omega, by omega⟩, ⟨⟨rfl, rfl, rfl, rfl, rfl, trivial⟩, trivial, rfl⟩, ?_⟩
    rintro ⟨k, hk, hk2⟩
    match k, hk, hk2 with
    | 0, hk, hk2 =>
      refine ⟨fun hbs => ?_, fun hbs => ?_⟩ <;> first | (exfalso; revert hbs; (simp [Tp.eArgs]); done) | skip
      refine ⟨fun hbs => ?_, fun hbs => ?_⟩ <;> first | (exfalso; revert hbs; (simp [Tp.eArgs]); done) | skip
      refine ⟨eTy a, by simp, rfl, rfl, ?_⟩
      refine ⟨eTy c, by simp, rfl, rfl, ?_⟩
      refine .inl ⟨_, h1, ?_⟩
      refine ⟨by kernel_rfl, ?_⟩
      refine ⟨fun hbs => ?_, fun hbs => ?_⟩ <;> first | (exfalso; revert hbs; (simp); done) | skip
      refine ⟨⟨1, by omega, by omega⟩, by simp, ⟨rfl, rfl, rfl, rfl, rfl, trivial⟩, trivial, rfl⟩
    | 1, hk, hk2 =>
      refine ⟨fun hbs => ?_, fun hbs => ?_⟩ <;> first | (exfalso; revert hbs; (simp [Tp.eArgs]); done) | skip
      refine ⟨fun hbs => ?_, fun hbs => ?_⟩ <;> first | (exfalso; revert hbs; (simp [Tp.eArgs]); done) | skip
      refine ⟨eTy b, by simp, rfl, rfl, ?_⟩
      refine ⟨eTy d, by simp, rfl, rfl, ?_⟩
      refine .inl ⟨_, h2, ?_⟩
      refine ⟨by kernel_rfl, ?_⟩
      by_cases hr : r2 = none
      · subst hr
        refine ⟨fun hbs => ?_, fun hbs => ?_⟩ <;> first | (exfalso; revert hbs; (simp); done) | skip
        refine ⟨⟨2, by omega, fun _ => rfl⟩, by simp, ⟨rfl, rfl, rfl, rfl, rfl, trivial⟩, trivial, rfl⟩
      · obtain ⟨u, rfl⟩ := Option.ne_none_iff_exists'.1 hr
        refine ⟨fun hbs => ?_, fun hbs => ?_⟩ <;> first | (exfalso; revert hbs; (simp); done) | skip
        exact rfl
    | 2, hk, hk2 =>
      have e2 := hk2 (by omega)
      subst e2
      refine ⟨fun hbs => ?_, fun hbs => ?_⟩ <;> first | (exfalso; revert hbs; (simp [Tp.eArgs]); done) | skip
      exact rfl
theorem find_ok (x : ByteArray) : ∀ p t : Tp, flat p → flat t → ACall Tryd.prog n_fugueref09_find [.lit (.string x), eTy p, eTy t] (fndR (fnd x p t))
  | .var y, t, hp, ht => by
    by_cases h : y = x
    · subst h
      rw [show fnd y (.var y) t = some t from if_pos rfl]; exact find_here
    · rw [show fnd x (.var y) t = none from if_neg h]; exact find_none (fun e => h (by injection e)) (.inl rfl)
  | .app a b, .app c d, hp, ht => by
    have := find_app (find_ok x a c hp.1 ht.1) (find_ok x b d hp.2 ht.2)
    rw [fnd]; exact this
  | .app a b, .no, hp, ht => find_none (fun e => by cases e) (.inr rfl)
  | .app a b, .mt _, hp, ht => find_none (fun e => by cases e) (.inr rfl)
  | .app a b, .var _, hp, ht => find_none (fun e => by cases e) (.inr rfl)
  | .app a b, .con _, hp, ht => find_none (fun e => by cases e) (.inr rfl)
  | .app a b, .all _ _, hp, ht => ht.elim
  | .all _ _, t, hp, ht => hp.elim
  | .no, t, hp, ht => find_none (fun e => by cases e) (.inl rfl)
  | .mt _, t, hp, ht => find_none (fun e => by cases e) (.inl rfl)
  | .con _, t, hp, ht => find_none (fun e => by cases e) (.inl rfl)
end Go.Proofs.YtigifkjcghkiiaaDoor

namespace Go.Proofs.YtigifkjcghkiiaaDoor
open Go Fp
set_option maxRecDepth 10000
set_option maxHeartbeats 16000000
set_option linter.unusedVariables false
set_option linter.unusedSimpArgs false

/-- What is found for the first k names. -/
def stP (f : ByteArray → Option Tp) (ns : List ByteArray) (k : Nat) : Put := (List.range ns.length).map fun i => if i < k then f (ns.getD i .empty) else none
theorem stP_length (f : ByteArray → Option Tp) (ns : List ByteArray) (k : Nat) : (stP f ns k).length = ns.length := by simp [stP]
theorem stP_zero (f : ByteArray → Option Tp) (ns : List ByteArray) : stP f ns 0 = pt0 ns.length := by
  unfold stP pt0
  refine List.ext_getElem (by simp) fun i h1 h2 => ?_
  simp
theorem stP_all (f : ByteArray → Option Tp) (ns : List ByteArray) : stP f ns ns.length = ns.map f := by
  unfold stP
  refine List.ext_getElem (by simp) fun i h1 h2 => ?_
  have h : i < ns.length := by simpa using h1
  simp [h]
theorem stP_set {f : ByteArray → Option Tp} {ns : List ByteArray} {k : Nat} (h : k < ns.length) : (stP f ns k).set k (f ns[k]) = stP f ns (k + 1) := by
  unfold stP
  refine List.ext_getElem (by simp) fun i h1 h2 => ?_
  have hi : i < ns.length := by simpa using h2
  rw [List.getElem_set]
  by_cases e : k = i
  · subst e; simp [h]
  · have : (i < k + 1) ↔ i < k := by omega
    rw [if_neg e]; simp [this]
theorem stP_skip {f : ByteArray → Option Tp} {ns : List ByteArray} {k : Nat} (h : k < ns.length) (hf : f ns[k] = none) : stP f ns k = stP f ns (k + 1) := by
  rw [← stP_set h, hf]
  refine List.ext_getElem (by simp) fun i h1 h2 => ?_
  rw [List.getElem_set]
  by_cases e : k = i
  · subst e; simp [stP]
  · rw [if_neg e]
def psF (f : ByteArray → Option Tp) (ns : List ByteArray) : Env' := ns.map fun x => (x, (f x).getD (.var x))
theorem psF_N (f : ByteArray → Option Tp) (ns : List ByteArray) : eN (psF f ns) = eSs ns := by
  unfold eN psF; rw [List.map_map]; congr 1; exact List.map_id'' (fun _ => rfl) ns
theorem psF_take {f : ByteArray → Option Tp} {ns : List ByteArray} {k : Nat} (h : k < ns.length) : eB (psF f (ns.take k)) ++ [eTy ((f ns[k]).getD (.var ns[k]))] = eB (psF f (ns.take (k + 1))) := by
  rw [List.take_succ_eq_append_getElem h]; unfold eB psF eTys; rw [List.map_append, List.map_append, List.map_append]; rfl

theorem RMatch_ok {ns : List ByteArray} (hn : ns.length < 1000) {p t : Tp} (hp : flat p) (ht : flat t) {q : Bool} (hs : rsubstSays p (psF (fun x => fnd x p t) ns)) (hq : ACall Tryd.prog n_fugueref04_Same [eTy (sub p (psF (fun x => fnd x p t) ns)), eTy t] (.sb q)) :
    ACall Tryd.prog n_fugueref09_Match [.sl (eSs ns), eTy p, eTy t] (MatchR q (ns.map fun x => fnd x p t)) := by
  obtain ⟨f, hf⟩ : ∃ f : ByteArray → Option Tp, f = fun x => fnd x p t := ⟨_, rfl⟩
  have hF : ∀ x, ACall Tryd.prog n_fugueref09_find [.lit (.string x), eTy p, eTy t] (fndR (f x)) := fun x => by rw [hf]; exact find_ok x p t hp ht
  rw [← hf] at hs hq ⊢
  unfold rsubstSays at hs
  rw [psF_N] at hs
  have hlen : (eSs ns).length = ns.length := by simp [eSs]
  have hst := stP_all f ns
  have hst0 := stP_zero f ns
  refine match_pure (n := ns.length) (by simp) ?_
  refine CallsG.less0 (post := fun r o h => ∃ b, r = (if q then .tup [slV b ns.length, .sb true] else .tup [.sl [], .sb false]) ∧ h = plH b (ns.map f)) ?_ (fun r o h hp => ⟨h, [], by simp, rfl, hp⟩)
  have tail : ∀ b, Wsem Tryd.prog (sndC (sndC (sndC (sndC (bodyC Tryd.f26))))) (mkC { vs := [(0, .v (.sl (eSs ns))), (4, .box 0 (eTy p)), (5, .box 0 (eTy t)), (8, .v (slV b ns.length)), (9, .v (.sl (eB (psF f ns))))], hp := plH b (ns.map f) })
      (fun c => RetG tt Tryd.f26.results.toList (fun r o h => ∃ b, r = (if q then .tup [slV b ns.length, .sb true] else .tup [.sl [], .sb false]) ∧ h = plH b (ns.map f)) (den c)) (fun _ _ => False) (fun c => RetG tt Tryd.f26.results.toList (fun r o h => ∃ b, r = (if q then .tup [slV b ns.length, .sb true] else .tup [.sl [], .sb false]) ∧ h = plH b (ns.map f)) (den c)) := fun b => by
    refine Wsem.of ttok mixed ?_
    refine .inl ⟨_, hs, ?_⟩
    refine .inl ⟨_, hq, ?_⟩
    refine ⟨by kernel_rfl, ?_⟩
    refine ⟨fun h => ?_, fun h => ?_⟩
    · have hq0 : q = false := by simpa using h
      exact ⟨b, by rw [hq0]; rfl, rfl⟩
    · have hq0 : q = true := by simpa using h
      exact ⟨b, by rw [hq0]; rfl, rfl⟩
  refine callsG_of_wsem (first := []) (cap := []) ttok mixed Tryd.func26 rfl (by rfl) rfl (Nat.le_of_ble_eq_true rfl) (by kernel_rfl) ?_
  refine Wsem.seq ttok mixed ?_
  refine Wsem.seq ttok mixed ?_
  refine ⟨rfl, by omega, by omega, by omega, fun b => ?_⟩
  refine Wsem.seq ttok mixed ?_
  refine Wsem.seq ttok mixed ?_
  refine ⟨{k : Nat // k ≤ ns.length}, fun k => { vs := [(0, .v (.sl (eSs ns))), (4, .box 0 (eTy p)), (5, .box 0 (eTy t)), (8, .v (slV b ns.length)), (9, .v (.sl (eB (psF f (ns.take k.1))))), (10, .v (.lit (.int .i64 (k.1 : Nat))))], ow := [(9, 0, 5)], hp := plH b (stP f ns k.1) },
    fun k => ns.length - k.1, ⟨0, by omega⟩, ⟨⟨rfl, rfl, rfl, ?_, rfl, rfl, trivial⟩, ⟨trivial, trivial⟩, ?_⟩, ?_⟩
  · exact congrArg (fun n => SV.v (slV b n)) hlen
  · show [(b, HO.cells (List.replicate (eSs ns).length (cl none)).flatten)] = plH b (stP f ns 0)
    rw [hlen, ← cel_pt0, ← hst0]
  rintro ⟨k, hk⟩
  refine ⟨fun h => ?_, fun h => ?_⟩
  · have h : k < ns.length := by simp [hlen] at h; omega
    refine ⟨_, by omega, getS h, rfl, ?_⟩
    refine .inl ⟨_, hF ns[k], ?_⟩
    refine ⟨by kernel_rfl, ?_⟩
    have hw := wrap_succ (k := k) (by omega)
    have ht := psF_take (f := f) h
    have hse := stP_set (f := f) h
    have hcl := cel_length (stP f ns k)
    have hsl := stP_length f ns k
    cases hk : f ns[k] with
    | some u =>
      rw [hk] at ht hse
      have hce := cel_set (l := stP f ns k) (k := k) (by omega) (some u)
      rw [hse, ← Nat.zero_add (k * 4)] at hce
      refine ⟨fun hbs => ?_, fun hbs => ?_⟩ <;> first | (exfalso; revert hbs; (simp); done) | skip
      refine ⟨by omega, (show (k : Int) < (ns.length : Nat) by omega), ?_⟩
      refine ⟨rfl, 0, _, rfl, ?_, ?_⟩
      · show 0 + k * 4 + 4 ≤ (cel (stP f ns k)).length
        omega
      refine ⟨by simp [eB, eTys, psF]; omega, uniT _, uniT [_], ?_⟩
      refine ⟨⟨k + 1, h⟩, (show ns.length - (k + 1) < ns.length - k by omega), ⟨rfl, rfl, rfl, rfl, ?_, svc hw, trivial⟩, ⟨rfl, trivial⟩, ?_⟩
      · exact congrArg (fun l => SV.v (AV.sl l)) ht
      · exact congrArg (fun c => [(b, HO.cells c)]) hce
    | none =>
      rw [hk] at ht
      refine ⟨fun hbs => ?_, fun hbs => ?_⟩ <;> first | (exfalso; revert hbs; (simp); done) | skip
      refine ⟨_, by omega, getS h, rfl, ?_⟩
      refine ⟨by simp [eB, eTys, psF]; omega, uniT _, uniT [.var ns[k]], ?_⟩
      refine ⟨⟨k + 1, h⟩, (show ns.length - (k + 1) < ns.length - k by omega), ⟨rfl, rfl, rfl, rfl, ?_, svc hw, trivial⟩, ⟨rfl, trivial⟩, ?_⟩
      · exact congrArg (fun l => SV.v (AV.sl l)) ht
      · exact congrArg (fun c => plH b c) (stP_skip h hk)
  · have h : k = ns.length := by simp [hlen] at h; omega
    subst h
    simp only [List.take_length]
    rw [hst]
    refine Wsem.cut _ ?_ (tail b)
    exact ⟨⟨rfl, rfl, rfl, rfl, rfl, trivial⟩, trivial, rfl⟩
end Go.Proofs.YtigifkjcghkiiaaDoor
