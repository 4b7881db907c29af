/- What is new takes something that no other takes; what is not takes nothing such. Plain. No condition. -/
import Derived.Test.YtefdahofpjmnfaaV1
set_option linter.unusedSimpArgs false
set_option linter.unusedVariables false
namespace Go.Proofs.Ytefdahofpjmnfaa
open Go Fp
set_option maxRecDepth 10000
set_option maxHeartbeats 4000000

def withinP (n : Nat) (l : List Rw) (r : Rw) (K : Kn) : Bool := match part K 0 .empty r with
  | some x => fresh n (parts K 0 .empty l) x
  | none => false
theorem fresh_cons {n : Nat} {l : List Rw} {r : Rw} {p : Pt} {ps : List Pt} (h : r.ps = p :: ps) :
    fresh (n + 1) l r = if p.f = 4 then withinP n l r (.con p.s p.k.length) else if p.f = 3 then withinP n l r (.int p.n) else match colCons 0 l with
      | some ks => ks.any fun q => withinP n l r (.con q.1 q.2.length)
      | none => withinP n l r .none || (intsOf 0 l).any fun x => withinP n l r (.int x) := by
  rw [fresh]
  simp only [h]
  rfl

theorem parts_cons {K : Kn} {y : ByteArray} {l : List Rw} {r x : Rw} (h : part K 0 y r = some x) : parts K 0 y (r :: l) = x :: parts K 0 y l := by
  unfold parts; rw [List.filterMap_cons_some h]

/-- Values that are of types: there is one that a pattern for all else takes. -/
theorem inhab {t : Nat} (ht : t < 5) : ∃ v, TyV t v := by
  match t with
  | 0 => exact ⟨.mk 2 0 .empty [], .int _ rfl⟩
  | 1 => exact ⟨.mk 1 0 sFalse [], .con 1 _ [] rfl (by simp [wCons, Vl.s]) rfl (fun i x u hx => by simp [Vl.k] at hx)⟩
  | 2 => exact ⟨.mk 1 0 sN [], .con 2 _ [] rfl (by simp [wCons, Vl.s]) rfl (fun i x u hx => by simp [Vl.k] at hx)⟩
  | 3 => exact ⟨.mk 1 0 sA [], .con 3 _ [] rfl (by simp [wCons, Vl.s]) rfl (fun i x u hx => by simp [Vl.k] at hx)⟩
  | 4 => exact ⟨.mk 1 0 sN [], .con 4 _ [] rfl (by simp [wCons, Vl.s]) rfl (fun i x u hx => by simp [Vl.k] at hx)⟩
  | n + 5 => omega
theorem own_inhab {l : List Rw} {cs : List Nat} {t : Nat} (ht : t < 5) (hl : ∀ r ∈ l, TyPs (t :: cs) r.ps) : ∃ v, TyV t v ∧ takes (ownOf (intsOf 0 l)) v = true := by
  by_cases h : intsOf 0 l = []
  · obtain ⟨v, hv⟩ := inhab ht
    exact ⟨v, hv, by rw [ownOf, if_pos h]; exact takes_opn wild_opn v⟩
  · obtain ⟨x, hx⟩ := List.exists_mem_of_ne_nil _ h
    have := (ints_mem (a := 0) (t := t) rfl hl (out := []) (fun x hx => by simp at hx) x hx).1
    subst this
    refine ⟨.mk 2 ((intsOf 0 l).foldl max 0 + 1) .empty [], .int _ rfl, ?_⟩
    rw [ownOf, if_neg h, takes_eq]
    simp [intP, Pt.f, Pt.n, Vl.f, Vl.n]

section
variable {n t : Nat} {cs fs : List Nat} {l : List Rw} {r : Rw} {K : Kn}

theorem within_yes (h : ∀ x, part K 0 .empty r = some x → RowsTy (fs ++ cs) n (x :: parts K 0 .empty l)) (ht : ∀ q ∈ r :: l, TyPs (t :: cs) q.ps) (hK : Fit t K fs)
    (ih : ∀ x, RowsTy (fs ++ cs) n (x :: parts K 0 .empty l) → fresh n (parts K 0 .empty l) x = true → ∃ vs, TyVs (fs ++ cs) vs ∧ takesL x.ps vs = true ∧ tk (parts K 0 .empty l) vs = false)
    (hv : ∀ a, TyVs fs a → ∃ v, TyV t v ∧ K.Is l v ∧ K.Is [r] v ∧ K.kids v = a) (hw : withinP n l r K = true) : ∃ vs, TyVs (t :: cs) vs ∧ takesL r.ps vs = true ∧ tk l vs = false := by
  unfold withinP at hw
  cases hp : part K 0 .empty r with
  | none => rw [hp] at hw; cases hw
  | some x =>
    rw [hp] at hw
    obtain ⟨vs, h1, h2, h3⟩ := ih x (h x hp) hw
    obtain ⟨a, b, rfl, ha, hb⟩ := h1.split
    obtain ⟨v, v1, v2, v3, rfl⟩ := hv a ha
    refine ⟨v :: b, ⟨v1, hb⟩, ?_, ?_⟩
    · rw [part_takes (l := [r]) (y := .empty) (us := b) (by simp) (ht r (by simp)) hK v3, hp]; exact h2
    · rw [tk_parts (y := .empty) (us := b) hK v2 (fun r hr => hr) (fun q hq => ht q (by simp [hq]))]; exact h3

theorem within_no (h : ∀ x, part K 0 .empty r = some x → RowsTy (fs ++ cs) n (x :: parts K 0 .empty l)) (ht : ∀ q ∈ r :: l, TyPs (t :: cs) q.ps) (hK : Fit t K fs)
    (ih : ∀ x, RowsTy (fs ++ cs) n (x :: parts K 0 .empty l) → fresh n (parts K 0 .empty l) x = false → ∀ vs, TyVs (fs ++ cs) vs → takesL x.ps vs = true → tk (parts K 0 .empty l) vs = true)
    {v : Vl} {us : List Vl} (h1 : K.Is l v) (h2 : K.Is [r] v) (h3 : TyVs (fs ++ cs) (K.kids v ++ us)) (hw : withinP n l r K = false) (hv : takesL r.ps (v :: us) = true) : tk l (v :: us) = true := by
  unfold withinP at hw
  rw [part_takes (l := [r]) (y := .empty) (us := us) (by simp) (ht r (by simp)) hK h2] at hv
  cases hp : part K 0 .empty r with
  | none => rw [hp] at hv; cases hv
  | some x =>
    rw [hp] at hw hv
    rw [tk_parts (y := .empty) (us := us) hK h1 (fun r hr => hr) (fun q hq => ht q (by simp [hq]))]
    exact ih x (h x hp) hw _ h3 hv
end

theorem is_none_one {r : Rw} {p : Pt} {ps : List Pt} (hp : r.ps = p :: ps) (ho : p.opn = true) (v : Vl) : Kn.none.Is [r] v := fun q hq p' ps' hp' ho' => by
  simp at hq; subst hq
  rw [hp] at hp'; injection hp' with h1 h2; subst h1
  rw [ho] at ho'; cases ho'

theorem RowsTy.tail {cs : List Nat} {n : Nat} {r : Rw} {l : List Rw} (h : RowsTy cs n (r :: l)) : RowsTy cs n l :=
  ⟨fun q hq => h.row q (by simp [hq]), h.col, by have := h.len; simp at this; omega, by have := h.fuel; simp only [wt] at this; omega, h.cap⟩

theorem open_form {t : Nat} {p : Pt} (h : TyP t p) (h4 : p.f ≠ 4) (h3 : p.f ≠ 3) : p.opn = true := by
  have := h.form.1
  unfold Pt.opn
  rcases this with h | h | h | h
  · simp [h]
  · simp [h]
  · exact absurd h.1 h3
  · exact absurd h h4

theorem fresh_yes : ∀ (n : Nat) (l : List Rw) (r : Rw) (cs : List Nat), RowsTy cs n (r :: l) → fresh n l r = true → ∃ vs, TyVs cs vs ∧ takesL r.ps vs = true ∧ tk l vs = false
  | 0, l, r, cs, h, _ => by have := h.fuel; omega
  | n + 1, l, r, [], h, hf => by
    have hr := h.tys r (by simp)
    cases hp : r.ps with
    | cons p ps => rw [hp] at hr; exact hr.elim
    | nil =>
      rw [fresh, hp] at hf
      cases l with
      | nil => exact ⟨[], trivial, by rw [takesL], rfl⟩
      | cons q l => cases hf
  | n + 1, l, r, t :: cs, h, hf => by
    have hr := h.tys r (by simp)
    cases hp : r.ps with
    | nil => rw [hp] at hr; exact hr.elim
    | cons p ps =>
      rw [← hp]
      rw [hp] at hr
      rw [fresh_cons hp] at hf
      have hcol := h.tail.tys
      have ih := fun (fs : List Nat) (K : Kn) (x : Rw) (hx : RowsTy (fs ++ cs) n (x :: parts K 0 .empty l)) hy => fresh_yes n (parts K 0 .empty l) x (fs ++ cs) hx hy
      by_cases h4 : p.f = 4
      · rw [if_pos h4] at hf
        obtain ⟨fs, hs, hk⟩ := ty_con hr.1 h4
        rw [hk.len] at hf
        have hh : ∃ q ∈ r :: l, ∃ p, q.ps[0]? = some p ∧ p.f = 4 := ⟨r, by simp, p, by rw [hp]; rfl, h4⟩
        refine within_yes (fun x hx => by rw [← parts_cons hx]; exact h.con hs hh) h.tys (.con t p.s fs hs) (ih fs _) (fun a ha => ?_) hf
        exact ⟨.mk 1 0 p.s a, .con t _ fs rfl hs ha.len ha.at, ⟨rfl, rfl, ha.len⟩, ⟨rfl, rfl, ha.len⟩, rfl⟩
      rw [if_neg h4] at hf
      by_cases h3 : p.f = 3
      · rw [if_pos h3] at hf
        obtain ⟨rfl, _, _⟩ := ty_int hr.1 h3
        refine within_yes (fs := []) (fun x hx => by rw [← parts_cons hx]; exact h.int rfl) h.tys (.int p.n) (ih [] _) (fun a ha => ?_) hf
        cases a with
        | nil => exact ⟨.mk 2 p.n .empty [], .int _ rfl, ⟨rfl, rfl⟩, ⟨rfl, rfl⟩, rfl⟩
        | cons _ _ => exact ha.elim
      rw [if_neg h3] at hf
      have ho := open_form hr.1 h4 h3
      have ht5 := h.col t (by simp)
      rcases colCons_ty (a := 0) (t := t) rfl hcol with ⟨hno, hn4⟩ | ⟨hks, ht0, _, hh⟩
      · rw [hno] at hf
        simp only [Bool.or_eq_true, List.any_eq_true] at hf
        rcases hf with hf | ⟨x, hx, hf⟩
        · refine within_yes (fs := []) (fun x hx => by rw [← parts_cons hx]; exact h.none) h.tys (.none t) (ih [] _) (fun a ha => ?_) hf
          obtain ⟨v, v1, v2⟩ := own_inhab ht5 hcol
          cases a with
          | nil => exact ⟨v, v1, own_is hcol hn4 v2, is_none_one hp ho v, rfl⟩
          | cons _ _ => exact ha.elim
        · have := (ints_mem (a := 0) (t := t) rfl hcol (out := []) (fun x hx => by simp at hx) x hx).1
          subst this
          refine within_yes (fs := []) (fun x hx => by rw [← parts_cons hx]; exact h.int rfl) h.tys (.int x) (ih [] _) (fun a ha => ?_) hf
          cases a with
          | nil => exact ⟨.mk 2 x .empty [], .int _ rfl, ⟨rfl, rfl⟩, ⟨rfl, rfl⟩, rfl⟩
          | cons _ _ => exact ha.elim
      · rw [hks] at hf
        simp only [List.any_eq_true] at hf
        obtain ⟨q, hq, hf⟩ := hf
        obtain ⟨fs, hfs, hfl⟩ := consT_at hq
        rw [← hfl] at hf
        have hh' : ∃ q ∈ r :: l, ∃ p, q.ps[0]? = some p ∧ p.f = 4 := let ⟨q, h1, h2⟩ := hh; ⟨q, by simp [h1], h2⟩
        refine within_yes (fun x hx => by rw [← parts_cons hx]; exact h.con hfs hh') h.tys (.con t q.1 fs hfs) (ih fs _) (fun a ha => ?_) hf
        exact ⟨.mk 1 0 q.1 a, .con t _ fs rfl hfs ha.len ha.at, ⟨rfl, rfl, ha.len⟩, ⟨rfl, rfl, ha.len⟩, rfl⟩

theorem fresh_no : ∀ (n : Nat) (l : List Rw) (r : Rw) (cs : List Nat), RowsTy cs n (r :: l) → fresh n l r = false → ∀ vs, TyVs cs vs → takesL r.ps vs = true → tk l vs = true
  | 0, l, r, cs, h, _ => by have := h.fuel; omega
  | n + 1, l, r, [], h, hf => by
    have hr := h.tys r (by simp)
    intro vs hv hrv
    cases vs with
    | cons _ _ => exact hv.elim
    | nil =>
      cases hp : r.ps with
      | cons p ps => rw [hp] at hr; exact hr.elim
      | nil =>
        rw [fresh, hp] at hf
        cases l with
        | nil => cases hf
        | cons q l =>
          have hq := h.tys q (by simp)
          unfold tk
          rw [List.any_cons]
          cases hqp : q.ps with
          | nil => rw [takesL]; rfl
          | cons p ps => rw [hqp] at hq; exact hq.elim
  | n + 1, l, r, t :: cs, h, hf => by
    have hr := h.tys r (by simp)
    intro vs hv hrv
    cases vs with
    | nil => exact hv.elim
    | cons v us =>
    cases hp : r.ps with
    | nil => rw [hp] at hr; exact hr.elim
    | cons p ps =>
      have hrv' := hrv
      rw [hp, takesL, Bool.and_eq_true] at hrv'
      rw [hp] at hr
      rw [fresh_cons hp] at hf
      have hcol := h.tail.tys
      have ih := fun (fs : List Nat) (K : Kn) (x : Rw) (hx : RowsTy (fs ++ cs) n (x :: parts K 0 .empty l)) hy => fresh_no n (parts K 0 .empty l) x (fs ++ cs) hx hy
      by_cases h4 : p.f = 4
      · rw [if_pos h4] at hf
        obtain ⟨fs, hs, hk⟩ := ty_con hr.1 h4
        rw [hk.len] at hf
        have hh : ∃ q ∈ r :: l, ∃ p, q.ps[0]? = some p ∧ p.f = 4 := ⟨r, by simp, p, by rw [hp]; rfl, h4⟩
        have hst : 0 < t := (wCons_fs hs).2.2.1
        have ht := hrv'.1
        rw [takes_eq] at ht
        simp [h4] at ht
        obtain ⟨⟨v1, v2⟩, v3⟩ := ht
        obtain ⟨gs, _, g2, g3⟩ := tyV_con hv.1 hst
        rw [v2] at g2
        have := wCons_uniq hs g2
        subst this
        exact within_no (fun x hx => by rw [← parts_cons hx]; exact h.con hs hh) h.tys (.con t p.s fs hs) (ih fs _) ⟨v1, v2, g3.len⟩ ⟨v1, v2, g3.len⟩ (g3.app hv.2) hf hrv
      rw [if_neg h4] at hf
      by_cases h3 : p.f = 3
      · rw [if_pos h3] at hf
        obtain ⟨rfl, _, _⟩ := ty_int hr.1 h3
        have ht := hrv'.1
        rw [takes_eq] at ht
        simp [h3] at ht
        exact within_no (fs := []) (fun x hx => by rw [← parts_cons hx]; exact h.int rfl) h.tys (.int p.n) (ih [] _) ⟨ht.1, ht.2⟩ ⟨ht.1, ht.2⟩ hv.2 hf hrv
      rw [if_neg h3] at hf
      have ho := open_form hr.1 h4 h3
      have ht5 := h.col t (by simp)
      rcases colCons_ty (a := 0) (t := t) rfl hcol with ⟨hno, hn4⟩ | ⟨hks, ht0, _, hh⟩
      · rw [hno] at hf
        simp only [Bool.or_eq_false_iff, List.any_eq_false] at hf
        by_cases hx : ∃ x ∈ intsOf 0 l, v.f = 2 ∧ v.n = x
        · obtain ⟨x, hx, h1, h2⟩ := hx
          have := (ints_mem (a := 0) (t := t) rfl hcol (out := []) (fun x hx => by simp at hx) x hx).1
          subst this
          exact within_no (fs := []) (fun x hx => by rw [← parts_cons hx]; exact h.int rfl) h.tys (.int x) (ih [] _) ⟨h1, h2⟩ ⟨h1, h2⟩ hv.2 (by simpa using hf.2 x hx) hrv
        · have his : Kn.none.Is l v := fun q hq p ps hps ho => by
            rw [takes_shut ho]
            have h4 := hn4 q hq p (by rw [hps]; rfl)
            by_cases h3 : p.f = 3
            · have hm := (ints_has (a := 0) (l := l) (out := [])).2 q hq p (by rw [hps]; rfl) h3
              have : ¬ (v.f = 2 ∧ v.n = p.n) := fun hh => hx ⟨p.n, hm, hh.1, hh.2⟩
              simp only [h3, h4]
              simp
              exact fun a b => this ⟨a, b⟩
            · simp [h3, h4]
          exact within_no (fs := []) (fun x hx => by rw [← parts_cons hx]; exact h.none) h.tys (.none t) (ih [] _) his (is_none_one hp ho v) hv.2 hf.1 hrv
      · rw [hks] at hf
        simp only [List.any_eq_false] at hf
        obtain ⟨fs, k1, k2, k3⟩ := tyV_con hv.1 ht0
        obtain ⟨q, hq, hq1, hq2⟩ := consT_of k2
        have hq' := hf q hq
        rw [hq1, hq2] at hq'
        have hh' : ∃ q ∈ r :: l, ∃ p, q.ps[0]? = some p ∧ p.f = 4 := let ⟨q, h1, h2⟩ := hh; ⟨q, by simp [h1], h2⟩
        exact within_no (fun x hx => by rw [← parts_cons hx]; exact h.con k2 hh') h.tys (.con t v.s fs k2) (ih fs _) ⟨k1, rfl, k3.len⟩ ⟨k1, rfl, k3.len⟩ (k3.app hv.2) (by simpa using hq') hrv

/-- What is missing stands for values of the columns' types. -/
theorem miss_val : ∀ (n : Nat) (l : List Rw) (cs : List Nat) (m : List Pt), RowsTy cs n l → miss n l cs.length = some m → ∃ vs, TyVs cs vs ∧ takesL m vs = true
  | 0, l, cs, m, h, _ => by have := h.fuel; omega
  | n + 1, l, [], m, h, hm => by
    cases l with
    | nil => simp [miss] at hm; subst hm; exact ⟨[], trivial, by rw [takesL]⟩
    | cons r l => simp [miss] at hm
  | n + 1, l, t :: cs, m, h, hm => by
    rcases colCons_ty (a := 0) (t := t) rfl h.tys with ⟨hno, hn4⟩ | ⟨hks, ht0, ht5, h4⟩
    · simp only [List.length_cons, miss, hno] at hm
      have hmem : ∀ x ∈ intsOf 0 l, t = 0 ∧ 0 ≤ x ∧ x < 1000 := ints_mem (a := 0) (t := t) rfl h.tys (fun x hx => by simp at hx)
      split at hm
      · rename_i m' hm'
        injection hm with hm; subst hm
        obtain ⟨us, u1, u2⟩ := miss_val n _ cs m' h.none hm'
        obtain ⟨v, v1, v2⟩ := own_inhab (h.col t (by simp)) h.tys
        exact ⟨v :: us, ⟨v1, u1⟩, by rw [takesL, v2, u2]; rfl⟩
      · obtain ⟨x, hx, hq⟩ := List.exists_of_findSome?_eq_some hm
        obtain ⟨m', hm', rfl⟩ := Option.map_eq_some_iff.1 hq
        obtain ⟨rfl, ht⟩ := hmem x hx
        obtain ⟨us, u1, u2⟩ := miss_val n _ cs m' (h.int rfl) hm'
        refine ⟨.mk 2 x .empty [] :: us, ⟨.int _ rfl, u1⟩, ?_⟩
        rw [takesL, u2, takes_eq]
        simp [intP, Pt.f, Pt.n, Vl.f, Vl.n]
    · simp only [List.length_cons, miss, hks] at hm
      obtain ⟨q, hq, hq'⟩ := List.exists_of_findSome?_eq_some hm
      obtain ⟨m', hm', rfl⟩ := Option.map_eq_some_iff.1 hq'
      obtain ⟨fs, hfs, hfl⟩ := consT_at hq
      have hm2 : miss n (parts (.con q.1 fs.length) 0 .empty l) (fs ++ cs).length = some m' := by rw [List.length_append, hfl]; exact hm'
      obtain ⟨vs, u1, u2⟩ := miss_val n _ (fs ++ cs) m' (h.con hfs h4) hm2
      obtain ⟨a, b, rfl, ha, hb⟩ := u1.split
      have hml := miss_len _ _ _ _ hm'
      refine ⟨.mk 1 0 q.1 a :: b, ⟨.con t _ fs rfl hfs ha.len ha.at, hb⟩, ?_⟩
      have e : m' = m'.take fs.length ++ m'.drop fs.length := (List.take_append_drop _ _).symm
      rw [e, takesL_app (by rw [List.length_take, ha.len]; omega), Bool.and_eq_true] at u2
      rw [← hfl, takesL, u2.2, takes_eq]
      simp only [conP, Pt.f, Pt.s, Pt.k, Vl.f, Vl.s, Vl.k]
      rw [u2.1]
      simp

/-! The statements' own sentences. -/
theorem rowsFrom_get : ∀ (l : List Pt) (n k : Nat), (rowsFrom n l)[k]? = (l[k]?).map fun p => ⟨[p], [], n + k⟩
  | [], _, _ => by simp [rowsFrom]
  | p :: l, n, 0 => by simp [rowsFrom]
  | p :: l, n, k + 1 => by simp only [rowsFrom, List.getElem?_cons_succ, rowsFrom_get l (n + 1) k]; rw [show n + 1 + k = n + (k + 1) by omega]
theorem rowsFrom_take : ∀ (l : List Pt) (n k : Nat), (rowsFrom n l).take k = rowsFrom n (l.take k)
  | [], _, k => by simp [rowsFrom]
  | p :: l, n, 0 => by simp [rowsFrom]
  | p :: l, n, k + 1 => by simp [rowsFrom, rowsFrom_take l (n + 1) k]
theorem rowsFrom_app : ∀ (l m : List Pt) (n : Nat), rowsFrom n (l ++ m) = rowsFrom n l ++ rowsFrom (n + l.length) m
  | [], m, n => rfl
  | p :: l, m, n => by simp only [List.cons_append, rowsFrom, rowsFrom_app l m, List.length_cons]; rw [show n + 1 + l.length = n + (l.length + 1) by omega]
theorem tk_rows : ∀ (l : List Pt) (n : Nat) (v : Vl), tk (rowsFrom n l) [v] = l.any fun p => takes p v
  | [], _, _ => rfl
  | p :: l, n, v => by
    have := tk_rows l (n + 1) v
    unfold tk at *
    simp only [rowsFrom, List.any_cons, takesL, Bool.and_true, this]

theorem wt_rows : ∀ (l : List Pt) (n c : Nat), (∀ p ∈ l, p.sz ≤ c) → wt (rowsFrom n l) ≤ l.length * c
  | [], _, _, _ => by simp [rowsFrom, wt]
  | p :: l, n, c, h => by
    have := wt_rows l (n + 1) c (fun q hq => h q (by simp [hq]))
    have h1 := h p (by simp)
    have h2 : p.nodes ≤ p.sz := nodes_sz p
    simp only [rowsFrom, wt, nodesL, List.length_cons, Nat.add_mul, Nat.one_mul]
    omega
theorem rows_ty {l : List Pt} {t n c : Nat} (ht : t < 5) (h : ∀ p ∈ l, TyP t p ∧ p.sz ≤ c) (hl : 3 * (l.length * c) + 1 < n) (hn : n < 9000) (hll : l.length < 100) : RowsTy [t] n (rowsFrom 0 l) := by
  have hw := wt_rows l 0 c (fun p hp => (h p hp).2)
  refine ⟨fun r hr => ?_, fun u hu => by simp at hu; omega, by rw [rowsFrom_len]; omega, by simp; omega, by omega⟩
  obtain ⟨k, hk⟩ := List.getElem?_of_mem hr
  rw [rowsFrom_get] at hk
  obtain ⟨p, hp, rfl⟩ := Option.map_eq_some_iff.1 hk
  exact ⟨⟨(h p (List.mem_of_getElem? hp)).1, trivial⟩, by simp; omega⟩
end Go.Proofs.Ytefdahofpjmnfaa
