/- What takes which values: what 'miss' finds is taken by none, and what is new takes something. Plain. No condition. -/
import Derived.Test.YtefdahofpjmnfaaL12
set_option linter.unusedSimpArgs false
set_option linter.unusedVariables false
namespace Go.Proofs.Ytefdahofpjmnfaa
open Go Fp
set_option maxRecDepth 10000
set_option maxHeartbeats 4000000

mutual
theorem nodes_sz : ∀ p : Pt, p.nodes ≤ p.sz
  | .mk f n s t ts k => by have := nodesL_sz k; rw [Pt.nodes, Pt.sz]; split <;> omega
theorem nodesL_sz : ∀ l : List Pt, nodesL l ≤ szL l
  | [] => by simp [nodesL, szL]
  | p :: r => by have := nodes_sz p; have := nodesL_sz r; simp only [nodesL, szL]; omega
end

/-- A value: its form, number, name, parts. -/
inductive Vl where
  | mk (f n : Int) (s : ByteArray) (k : List Vl)
namespace Vl
def f : Vl → Int | mk f _ _ _ => f
def n : Vl → Int | mk _ n _ _ => n
def s : Vl → ByteArray | mk _ _ s _ => s
def k : Vl → List Vl | mk _ _ _ k => k
end Vl

mutual
def takes : Pt → Vl → Bool
  | .mk f n s _ _ k, v => (decide (f = 1) || decide (f = 2)) || ((decide (f = 3) && (decide (v.f = 2) && decide (v.n = n))) || (decide (f = 4) && ((decide (v.f = 1) && decide (v.s = s)) && takesL k v.k)))
def takesL : List Pt → List Vl → Bool
  | [], [] => true
  | p :: ps, v :: vs => takes p v && takesL ps vs
  | _, _ => false
end
theorem takes_eq (p : Pt) (v : Vl) : takes p v = ((decide (p.f = 1) || decide (p.f = 2)) || ((decide (p.f = 3) && (decide (v.f = 2) && decide (v.n = p.n))) || (decide (p.f = 4) && ((decide (v.f = 1) && decide (v.s = p.s)) && takesL p.k v.k)))) := by
  cases p; rw [takes]; rfl
theorem takes_opn {p : Pt} (h : p.opn = true) (v : Vl) : takes p v = true := by
  rw [takes_eq]; unfold Pt.opn at h; rw [h]; rfl
theorem takes_shut {p : Pt} (h : p.opn = false) (v : Vl) : takes p v = ((decide (p.f = 3) && (decide (v.f = 2) && decide (v.n = p.n))) || (decide (p.f = 4) && ((decide (v.f = 1) && decide (v.s = p.s)) && takesL p.k v.k))) := by
  rw [takes_eq]; unfold Pt.opn at h; rw [h]; rfl
theorem takesL_len : ∀ {ps : List Pt} {vs : List Vl}, takesL ps vs = true → ps.length = vs.length
  | [], [], _ => rfl
  | p :: ps, v :: vs, h => by
    rw [takesL, Bool.and_eq_true] at h
    simp [takesL_len h.2]
  | [], _ :: _, h => by simp [takesL] at h
  | _ :: _, [], h => by simp [takesL] at h
theorem takesL_app : ∀ {ps qs : List Pt} {vs us : List Vl}, ps.length = vs.length → takesL (ps ++ qs) (vs ++ us) = (takesL ps vs && takesL qs us)
  | [], qs, [], us, _ => by simp [takesL]
  | p :: ps, qs, v :: vs, us, h => by
    simp only [List.cons_append, takesL, takesL_app (ps := ps) (qs := qs) (vs := vs) (us := us) (by simpa using h), Bool.and_assoc]
  | [], _, _ :: _, _, h => by simp at h
  | _ :: _, _, [], _, h => by simp at h
theorem wild_opn : wildP.opn = true := rfl
theorem takesL_wild : ∀ {n : Nat} {vs : List Vl}, vs.length = n → takesL (List.replicate n wildP) vs = true
  | 0, [], _ => by rw [List.replicate_zero, takesL]
  | n + 1, v :: vs, h => by rw [List.replicate_succ, takesL, takes_opn wild_opn, takesL_wild (by simpa using h)]; rfl
  | 0, _ :: _, h => by simp at h
  | n + 1, [], h => by simp at h

/-- A value is of a type. -/
inductive TyV : Nat → Vl → Prop
  | int (v : Vl) (hf : v.f = 2) : TyV 0 v
  | con (t : Nat) (v : Vl) (fs : List Nat) (hf : v.f = 1) (hs : (v.s, fs) ∈ wCons t) (hl : v.k.length = fs.length) (hk : ∀ (i : Nat) (x : Vl) u, v.k[i]? = some x → fs[i]? = some u → TyV u x) : TyV t v
def TyVs : List Nat → List Vl → Prop
  | [], [] => True
  | t :: cs, p :: ps => TyV t p ∧ TyVs cs ps
  | _, _ => False
theorem TyVs.len : ∀ {cs : List Nat} {ps : List Vl}, TyVs cs ps → ps.length = cs.length
  | [], [], _ => rfl
  | t :: cs, p :: ps, h => by simp [TyVs.len h.2]
theorem TyVs.app : ∀ {cs ds : List Nat} {ps qs : List Vl}, TyVs cs ps → TyVs ds qs → TyVs (cs ++ ds) (ps ++ qs)
  | [], ds, [], qs, _, k => k
  | t :: cs, ds, p :: ps, qs, h, k => ⟨h.1, TyVs.app h.2 k⟩
theorem TyVs.split : ∀ {cs ds : List Nat} {ps : List Vl}, TyVs (cs ++ ds) ps → ∃ a b, ps = a ++ b ∧ TyVs cs a ∧ TyVs ds b
  | [], ds, ps, h => ⟨[], ps, rfl, trivial, h⟩
  | t :: cs, ds, p :: ps, h => by
    obtain ⟨a, b, rfl, h1, h2⟩ := TyVs.split (cs := cs) (ds := ds) (ps := ps) h.2
    exact ⟨p :: a, b, rfl, ⟨h.1, h1⟩, h2⟩
theorem TyVs.of : ∀ {cs : List Nat} {ps : List Vl}, ps.length = cs.length → (∀ (i : Nat) (x : Vl) u, ps[i]? = some x → cs[i]? = some u → TyV u x) → TyVs cs ps
  | [], [], _, _ => trivial
  | t :: cs, p :: ps, hl, h => ⟨h 0 p t rfl rfl, TyVs.of (by simpa using hl) fun i x u hx hu => h (i + 1) x u (by simpa using hx) (by simpa using hu)⟩
  | [], p :: ps, hl, _ => by simp at hl
  | t :: cs, [], hl, _ => by simp at hl
theorem TyVs.at : ∀ {cs : List Nat} {ps : List Vl}, TyVs cs ps → ∀ (i : Nat) (x : Vl) u, ps[i]? = some x → cs[i]? = some u → TyV u x
  | t :: cs, p :: ps, h, 0, x, u, hx, hu => by simp at hx hu; subst hx; subst hu; exact h.1
  | t :: cs, p :: ps, h, i + 1, x, u, hx, hu => TyVs.at h.2 i x u (by simpa using hx) (by simpa using hu)
  | [], ps, _, i, x, u, _, hu => by simp at hu
theorem tyV_con {t : Nat} {v : Vl} (h : TyV t v) (h0 : 0 < t) : ∃ fs, v.f = 1 ∧ (v.s, fs) ∈ wCons t ∧ TyVs fs v.k := by
  cases h with
  | int _ _ => omega
  | con _ _ fs hf hs hl hk => exact ⟨fs, hf, hs, TyVs.of hl hk⟩

/-- The value is what is looked at, for these rows. -/
def Kn.Is : Kn → List Rw → Vl → Prop
  | .con s n, _, v => v.f = 1 ∧ v.s = s ∧ v.k.length = n
  | .int x, _, v => v.f = 2 ∧ v.n = x
  | .none, l, v => ∀ r ∈ l, ∀ p ps, r.ps = p :: ps → p.opn = false → takes p v = false
def Kn.kids : Kn → Vl → List Vl
  | .con _ _, v => v.k
  | _, _ => []
def tk (l : List Rw) (vs : List Vl) : Bool := l.any fun r => takesL r.ps vs

theorem part0 (K : Kn) (y : ByteArray) {r : Rw} {p : Pt} {ps : List Pt} (h : r.ps = p :: ps) :
    part K 0 y r = if p.opn = true then some ⟨List.replicate K.many wildP ++ ps, r.lost ++ (if p.f = 2 then [(p.s, p.t, y)] else []), r.body⟩ else if K.hits p = true then some ⟨p.k ++ ps, r.lost, r.body⟩ else none := by
  unfold part
  rw [h]
  simp

theorem part_takes {K : Kn} {l : List Rw} {y : ByteArray} {r : Rw} {t : Nat} {cs fs : List Nat} {v : Vl} {us : List Vl} (hr : r ∈ l) (ht : TyPs (t :: cs) r.ps) (hK : Fit t K fs) (hv : K.Is l v) :
    takesL r.ps (v :: us) = match part K 0 y r with | some x => takesL x.ps (K.kids v ++ us) | none => false := by
  obtain ⟨ps, lost, body⟩ := r
  cases ps with
  | nil => exact ht.elim
  | cons p ps =>
    rw [part0 K y (r := ⟨p :: ps, lost, body⟩) rfl]
    have hkl : (K.kids v).length = K.many := by
      cases K with
      | con s n => exact hv.2.2
      | _ => rfl
    cases ho : p.opn with
    | true =>
      rw [if_pos rfl]
      simp only [takesL, takes_opn ho, Bool.true_and]
      rw [takesL_app (by rw [hkl]; simp), takesL_wild hkl, Bool.true_and]
    | false =>
      rw [if_neg (by simp)]
      cases K with
      | none =>
        have := hv _ hr p ps rfl ho
        simp only [takesL, this, Kn.hits]
        rfl
      | int x =>
        obtain ⟨h1, h2⟩ := hv
        by_cases h3 : p.f = 3
        · have hk := (ty_int ht.1 h3).2.1
          by_cases hn : p.n = x
          · rw [if_pos (by simp [Kn.hits, h3, hn])]
            simp only [takesL, takes_shut ho, h3, h1, h2, hn, hk, Kn.kids, List.nil_append]
            simp
          · rw [if_neg (by simp [Kn.hits, h3, hn])]
            simp only [takesL, takes_shut ho, h3, h1, h2]
            simp [Ne.symm hn]
        · rw [if_neg (by simp [Kn.hits, h3])]
          simp [takesL, takes_shut ho, h3, h1]
      | con s n =>
        obtain ⟨h1, h2, h3⟩ := hv
        by_cases h4 : p.f = 4
        · by_cases hs : p.s = s
          · have hh : (Kn.con s n).hits p = true := by simp [Kn.hits, h4, hs]
            rw [if_pos hh]
            have hkt := (hits_kids ht.1 hK hh).len
            have hm := hK.many
            simp only [Kn.many] at hm
            simp only [takesL, takes_shut ho, h4, h1, h2, hs, Kn.kids]
            rw [takesL_app (by rw [hkt, h3, hm])]
            simp
          · rw [if_neg (by simp [Kn.hits, h4, hs])]
            simp only [takesL, takes_shut ho, h4, h1, h2]
            simp [Ne.symm hs]
        · rw [if_neg (by simp [Kn.hits, h4])]
          simp [takesL, takes_shut ho, h4, h1]

theorem tk_parts {K : Kn} {y : ByteArray} {t : Nat} {cs fs : List Nat} {v : Vl} {us : List Vl} (hK : Fit t K fs) {l0 : List Rw} (hv : K.Is l0 v) : ∀ {l : List Rw}, (∀ r ∈ l, r ∈ l0) → (∀ r ∈ l, TyPs (t :: cs) r.ps) → tk l (v :: us) = tk (parts K 0 y l) (K.kids v ++ us)
  | [], _, _ => rfl
  | r :: l, hm, hl => by
    have h1 := part_takes (y := y) (us := us) (hm r (by simp)) (hl r (by simp)) hK hv
    have h2 := tk_parts (y := y) (us := us) hK hv (l := l) (fun r hr => hm r (by simp [hr])) (fun r hr => hl r (by simp [hr]))
    unfold tk parts at *
    rw [List.any_cons, h1]
    cases hp : part K 0 y r with
    | none => rw [List.filterMap_cons_none hp]; simpa using h2
    | some x => rw [List.filterMap_cons_some hp, List.any_cons, h2]

/-- A constructor of the type, as the column's constructors tell it. -/
theorem consT_of {t : Nat} {s : ByteArray} {fs : List Nat} (h : (s, fs) ∈ wCons t) : ∃ q ∈ consT t, q.1 = s ∧ q.2.length = fs.length := by
  have h1 : (s, fs.length) ∈ (wCons t).map (fun q => (q.1, q.2.length)) := List.mem_map.2 ⟨_, h, rfl⟩
  rw [← consT_eq] at h1
  obtain ⟨q, hq, he⟩ := List.mem_map.1 h1
  injection he with h2 h3
  exact ⟨q, hq, h2, h3⟩

theorem ints_has {a : Nat} : ∀ {l : List Rw} {out : List Int}, (∀ x ∈ out, x ∈ l.foldl (intStep a) out) ∧ ∀ r ∈ l, ∀ p, r.ps[a]? = some p → p.f = 3 → p.n ∈ l.foldl (intStep a) out
  | [], out => ⟨fun x h => h, fun r hr => by simp at hr⟩
  | r :: l, out => by
    obtain ⟨h1, h2⟩ := ints_has (a := a) (l := l) (out := intStep a out r)
    have h0 : ∀ x ∈ out, x ∈ intStep a out r := fun x hx => by
      unfold intStep
      split
      · split
        · exact List.mem_append_left _ hx
        · exact hx
      · exact hx
    refine ⟨fun x hx => h1 x (h0 x hx), fun r' hr' p hp h3 => ?_⟩
    rcases List.mem_cons.1 hr' with rfl | hr'
    · refine h1 _ ?_
      unfold intStep
      rw [hp]
      simp only
      split
      · simp
      · rename_i hc
        have : p.n ∈ out := by
          by_cases hm : p.n ∈ out
          · exact hm
          · exact absurd ⟨h3, hm⟩ hc
        exact this
    · exact h2 r' hr' p hp h3

theorem max_ge : ∀ {l : List Int} {b : Int}, b ≤ l.foldl max b ∧ ∀ x ∈ l, x ≤ l.foldl max b
  | [], b => ⟨Int.le_refl _, fun x h => by simp at h⟩
  | y :: l, b => by
    obtain ⟨h1, h2⟩ := max_ge (l := l) (b := max b y)
    simp only [List.foldl_cons]
    refine ⟨by omega, fun x hx => ?_⟩
    rcases List.mem_cons.1 hx with rfl | hx
    · omega
    · exact h2 x hx

/-- What stands for all else is taken by no pattern that looks. -/
theorem own_is {l : List Rw} {cs : List Nat} {t : Nat} (hl : ∀ r ∈ l, TyPs (t :: cs) r.ps) (hn : ∀ r ∈ l, ∀ p, r.ps[0]? = some p → p.f ≠ 4) {v : Vl} (hv : takes (ownOf (intsOf 0 l)) v = true) : Kn.none.Is l v := by
  intro r hr p ps hps ho
  rw [takes_shut ho]
  have h4 := hn r hr p (by rw [hps]; rfl)
  by_cases h3 : p.f = 3
  · have hm := (ints_has (a := 0) (l := l) (out := [])).2 r hr p (by rw [hps]; rfl) h3
    change p.n ∈ intsOf 0 l at hm
    have hne : intsOf 0 l ≠ [] := List.ne_nil_of_mem hm
    rw [ownOf, if_neg hne, takes_eq] at hv
    have hge := (max_ge (l := intsOf 0 l) (b := 0)).2 p.n hm
    simp only [intP, Pt.f, Pt.n] at hv
    simp only [Bool.or_eq_true, Bool.and_eq_true, decide_eq_true_eq] at hv
    have hv' : v.f = 2 ∧ v.n = (intsOf 0 l).foldl max 0 + 1 := by
      rcases hv with (h | h) | (h | h)
      · cases h
      · cases h
      · exact ⟨h.2.1, of_decide_eq_true h.2.2⟩
      · cases h.1
    have hnn : v.n ≠ p.n := by omega
    simp [h3, hnn]
  · simp [h3, h4]

/-- What is found missing is taken by none. -/
theorem miss_sound : ∀ (n : Nat) (l : List Rw) (cs : List Nat) (m : List Pt), RowsTy cs n l → miss n l cs.length = some m → ∀ vs, takesL m vs = true → tk l vs = false
  | 0, l, cs, m, h, _, _, _ => by have := h.fuel; omega
  | n + 1, l, [], m, h, hm, vs, hv => by
    cases l with
    | nil => rfl
    | cons r l => simp [miss] at hm
  | n + 1, l, t :: cs, m, h, hm, vs, hv => by
    rcases colCons_ty (a := 0) (t := t) rfl h.tys with ⟨hno, hn4⟩ | ⟨hks, ht0, ht5, h4⟩
    · simp only [List.length_cons, miss, hno] at hm
      have hmem : ∀ x ∈ intsOf 0 l, t = 0 ∧ 0 ≤ x ∧ x < 1000 := ints_mem (a := 0) (t := t) rfl h.tys (fun x hx => by simp at hx)
      split at hm
      · rename_i m' hm'
        injection hm with hm; subst hm
        cases vs with
        | nil => simp [takesL] at hv
        | cons v us =>
          rw [takesL, Bool.and_eq_true] at hv
          rw [tk_parts (y := .empty) (.none t) (own_is h.tys hn4 hv.1) (fun r hr => hr) h.tys]
          exact miss_sound n _ cs m' h.none hm' _ hv.2
      · obtain ⟨x, hx, hq⟩ := List.exists_of_findSome?_eq_some hm
        obtain ⟨m', hm', rfl⟩ := Option.map_eq_some_iff.1 hq
        have ht := (hmem x hx).1
        subst ht
        cases vs with
        | nil => simp [takesL] at hv
        | cons v us =>
          rw [takesL, Bool.and_eq_true, takes_eq] at hv
          have hv1 := hv.1
          simp only [intP, Pt.f, Pt.n, Bool.or_eq_true, Bool.and_eq_true, decide_eq_true_eq] at hv1
          have hv1 : v.f = 2 ∧ v.n = x := by
            rcases hv1 with (h | h) | (h | h)
            · cases h
            · cases h
            · exact ⟨h.2.1, of_decide_eq_true h.2.2⟩
            · cases h.1
          rw [tk_parts (y := .empty) (l0 := l) (.int x) ⟨hv1.1, hv1.2⟩ (fun r hr => hr) h.tys]
          exact miss_sound n _ cs m' (h.int rfl) hm' _ hv.2
    · simp only [List.length_cons, miss, hks] at hm
      obtain ⟨q, hq, hq'⟩ := List.exists_of_findSome?_eq_some hm
      obtain ⟨m', hm', rfl⟩ := Option.map_eq_some_iff.1 hq'
      obtain ⟨fs, hfs, hfl⟩ := consT_at hq
      have hml := miss_len _ _ _ _ hm'
      rw [← hfl] at hm' hv hml
      cases vs with
      | nil => simp [takesL] at hv
      | cons v us =>
        rw [takesL, Bool.and_eq_true, takes_eq] at hv
        obtain ⟨hv1, hv2⟩ := hv
        simp only [conP, Pt.f, Pt.s, Pt.k, Bool.or_eq_true, Bool.and_eq_true, decide_eq_true_eq] at hv1
        have hv1 : (v.f = 1 ∧ v.s = q.1) ∧ takesL (m'.take fs.length) v.k = true := by
          rcases hv1 with (h | h) | (h | h)
          · cases h
          · cases h
          · cases h.1
          · exact ⟨⟨h.2.1.1, of_decide_eq_true h.2.1.2⟩, h.2.2⟩
        obtain ⟨⟨k1, k2⟩, k3⟩ := hv1
        have hvl := takesL_len k3
        rw [List.length_take, hml] at hvl
        have hvl : v.k.length = fs.length := by omega
        rw [tk_parts (y := .empty) (l0 := l) (.con t q.1 fs hfs) ⟨k1, k2, hvl⟩ (fun r hr => hr) h.tys]
        have hm2 : miss n (parts (.con q.1 fs.length) 0 .empty l) (fs ++ cs).length = some m' := by rw [List.length_append]; exact hm'
        refine miss_sound n _ (fs ++ cs) m' (h.con hfs h4) hm2 _ ?_
        show takesL m' (v.k ++ us) = true
        have e : m' = m'.take fs.length ++ m'.drop fs.length := (List.take_append_drop _ _).symm
        rw [e, takesL_app (by rw [List.length_take, hml, hvl]; omega), k3, hv2]; rfl

/-- If nothing is missing, each value is taken. -/
theorem miss_whole : ∀ (n : Nat) (l : List Rw) (cs : List Nat), RowsTy cs n l → miss n l cs.length = none → ∀ vs, TyVs cs vs → tk l vs = true
  | 0, l, cs, h, _, _, _ => by have := h.fuel; omega
  | n + 1, l, [], h, hm, vs, hv => by
    cases l with
    | nil => simp [miss] at hm
    | cons r l =>
      have hr := h.tys r (by simp)
      cases vs with
      | nil =>
        unfold tk
        rw [List.any_cons]
        cases hp : r.ps with
        | nil => rw [takesL]; rfl
        | cons p ps => rw [hp] at hr; exact hr.elim
      | cons v vs => exact hv.elim
  | n + 1, l, t :: cs, h, hm, [], hv => hv.elim
  | n + 1, l, t :: cs, h, hm, v :: us, hv => by
    rcases colCons_ty (a := 0) (t := t) rfl h.tys with ⟨hno, hn4⟩ | ⟨hks, ht0, ht5, h4⟩
    · simp only [List.length_cons, miss, hno] at hm
      split at hm
      · cases hm
      · rename_i hm'
        rw [List.findSome?_eq_none_iff] at hm
        -- an integer that is there, or all else
        by_cases hx : ∃ x ∈ intsOf 0 l, v.f = 2 ∧ v.n = x
        · obtain ⟨x, hx, h1, h2⟩ := hx
          have ht : t = 0 := ((ints_mem (a := 0) (t := t) rfl h.tys (out := []) (fun x hx => by simp at hx)) x hx).1
          subst ht
          rw [tk_parts (y := .empty) (l0 := l) (.int x) ⟨h1, h2⟩ (fun r hr => hr) h.tys]
          exact miss_whole n _ cs (h.int rfl) (by simpa using hm x hx) _ hv.2
        · have his : Kn.none.Is l v := fun r hr p ps hps ho => by
            rw [takes_shut ho]
            have h4 := hn4 r hr p (by rw [hps]; rfl)
            by_cases h3 : p.f = 3
            · have hm := (ints_has (a := 0) (l := l) (out := [])).2 r hr p (by rw [hps]; rfl) h3
              have : ¬ (v.f = 2 ∧ v.n = p.n) := fun hh => hx ⟨p.n, hm, hh.1, hh.2⟩
              simp only [h3, h4]
              simp
              exact fun a b => this ⟨a, b⟩
            · simp [h3, h4]
          rw [tk_parts (y := .empty) (.none t) his (fun r hr => hr) h.tys]
          exact miss_whole n _ cs h.none hm' _ hv.2
    · simp only [List.length_cons, miss, hks] at hm
      rw [List.findSome?_eq_none_iff] at hm
      obtain ⟨fs, k1, k2, k3⟩ := tyV_con hv.1 ht0
      obtain ⟨q, hq, hq1, hq2⟩ := consT_of k2
      have := hm q hq
      rw [hq1, hq2] at this
      rw [tk_parts (y := .empty) (l0 := l) (.con t v.s fs k2) ⟨k1, rfl, k3.len⟩ (fun r hr => hr) h.tys]
      refine miss_whole n _ (fs ++ cs) (h.con k2 h4) (by rw [List.length_append]; simpa using this) _ (k3.app hv.2)

/-- Is a row new to rows? -/
def fresh : Nat → List Rw → Rw → Bool
  | 0, _, _ => false
  | n + 1, l, r => match r.ps with
    | [] => l.isEmpty
    | p :: _ =>
      let within (K : Kn) : Bool := match part K 0 .empty r with
        | some x => fresh n (parts K 0 .empty l) x
        | none => false
      if p.f = 4 then within (.con p.s p.k.length) else if p.f = 3 then within (.int p.n) else match colCons 0 l with
        | some ks => ks.any fun q => within (.con q.1 q.2.length)
        | none => within .none || (intsOf 0 l).any fun x => within (.int x)
end Go.Proofs.Ytefdahofpjmnfaa
