/- What takes which values: what 'miss' finds is taken by none, and what is new takes something. Plain. No condition. -/
import Derived.Test.YtefdahofpjmnfaaDoorB
set_option linter.unusedSimpArgs false
set_option linter.unusedVariables false
namespace Go.Proofs.YtefdahofpjmnfaaDoor
open Go Fp
set_option maxRecDepth 10000
set_option maxHeartbeats 4000000

mutual
theorem nodes_sz : ∀ p : Pt, p.nodes ≤ p.sz
  | .mk f n s t ts k => by have := nodesL_sz k; rw [Pt.nodes, Pt.sz]; split <;> omega
theorem nodesL_sz : ∀ l : List Pt, nodesL l ≤ szL l
  | [] => by simp [nodesL, szL]
  | p :: r => by have := nodes_sz p; have := nodesL_sz r; simp only [nodesL, szL]; omega
end

/-- A value: its form, number, name, parts. -/
inductive Vl where
  | mk (f n : Int) (s : ByteArray) (k : List Vl)
namespace Vl
def f : Vl → Int | mk f _ _ _ => f
def n : Vl → Int | mk _ n _ _ => n
def s : Vl → ByteArray | mk _ _ s _ => s
def k : Vl → List Vl | mk _ _ _ k => k
end Vl

mutual
def takes : Pt → Vl → Bool
  | .mk f n s _ _ k, v => (decide (f = 1) || decide (f = 2)) || ((decide (f = 3) && (decide (v.f = 2) && decide (v.n = n))) || (decide (f = 4) && ((decide (v.f = 1) && decide (v.s = s)) && takesL k v.k)))
def takesL : List Pt → List Vl → Bool
  | [], [] => true
  | p :: ps, v :: vs => takes p v && takesL ps vs
  | _, _ => false
end
theorem takes_eq (p : Pt) (v : Vl) : takes p v = ((decide (p.f = 1) || decide (p.f = 2)) || ((decide (p.f = 3) && (decide (v.f = 2) && decide (v.n = p.n))) || (decide (p.f = 4) && ((decide (v.f = 1) && decide (v.s = p.s)) && takesL p.k v.k)))) := by
  cases p; rw [takes]; rfl
theorem takes_opn {p : Pt} (h : p.opn = true) (v : Vl) : takes p v = true := by
  rw [takes_eq]; unfold Pt.opn at h; rw [h]; rfl
theorem takes_shut {p : Pt} (h : p.opn = false) (v : Vl) : takes p v = ((decide (p.f = 3) && (decide (v.f = 2) && decide (v.n = p.n))) || (decide (p.f = 4) && ((decide (v.f = 1) && decide (v.s = p.s)) && takesL p.k v.k))) := by
  rw [takes_eq]; unfold Pt.opn at h; rw [h]; rfl
theorem takesL_len : ∀ {ps : List Pt} {vs : List Vl}, takesL ps vs = true → ps.length = vs.length
  | [], [], _ => rfl
  | p :: ps, v :: vs, h => by
    rw [takesL, Bool.and_eq_true] at h
    simp [takesL_len h.2]
  | [], _ :: _, h => by simp [takesL] at h
  | _ :: _, [], h => by simp [takesL] at h
theorem takesL_app : ∀ {ps qs : List Pt} {vs us : List Vl}, ps.length = vs.length → takesL (ps ++ qs) (vs ++ us) = (takesL ps vs && takesL qs us)
  | [], qs, [], us, _ => by simp [takesL]
  | p :: ps, qs, v :: vs, us, h => by
    simp only [List.cons_append, takesL, takesL_app (ps := ps) (qs := qs) (vs := vs) (us := us) (by simpa using h), Bool.and_assoc]
  | [], _, _ :: _, _, h => by simp at h
  | _ :: _, _, [], _, h => by simp at h
theorem wild_opn : wildP.opn = true := rfl
theorem takesL_wild : ∀ {n : Nat} {vs : List Vl}, vs.length = n → takesL (List.replicate n wildP) vs = true
  | 0, [], _ => by rw [List.replicate_zero, takesL]
  | n + 1, v :: vs, h => by rw [List.replicate_succ, takesL, takes_opn wild_opn, takesL_wild (by simpa using h)]; rfl
  | 0, _ :: _, h => by simp at h
  | n + 1, [], h => by simp at h

/-- A value is of a type. -/
inductive TyV : Nat → Vl → Prop
  | int (v : Vl) (hf : v.f = 2) (hk : v.k = []) : TyV 0 v
  | con (t : Nat) (v : Vl) (fs : List Nat) (hf : v.f = 1) (hs : (v.s, fs) ∈ wCons t) (hl : v.k.length = fs.length) (hk : ∀ (i : Nat) (x : Vl) u, v.k[i]? = some x → fs[i]? = some u → TyV u x) : TyV t v
def TyVs : List Nat → List Vl → Prop
  | [], [] => True
  | t :: cs, p :: ps => TyV t p ∧ TyVs cs ps
  | _, _ => False
theorem TyVs.len : ∀ {cs : List Nat} {ps : List Vl}, TyVs cs ps → ps.length = cs.length
  | [], [], _ => rfl
  | t :: cs, p :: ps, h => by simp [TyVs.len h.2]
theorem TyVs.app : ∀ {cs ds : List Nat} {ps qs : List Vl}, TyVs cs ps → TyVs ds qs → TyVs (cs ++ ds) (ps ++ qs)
  | [], ds, [], qs, _, k => k
  | t :: cs, ds, p :: ps, qs, h, k => ⟨h.1, TyVs.app h.2 k⟩
theorem TyVs.split : ∀ {cs ds : List Nat} {ps : List Vl}, TyVs (cs ++ ds) ps → ∃ a b, ps = a ++ b ∧ TyVs cs a ∧ TyVs ds b
  | [], ds, ps, h => ⟨[], ps, rfl, trivial, h⟩
  | t :: cs, ds, p :: ps, h => by
    obtain ⟨a, b, rfl, h1, h2⟩ := TyVs.split (cs := cs) (ds := ds) (ps := ps) h.2
    exact ⟨p :: a, b, rfl, ⟨h.1, h1⟩, h2⟩
theorem TyVs.of : ∀ {cs : List Nat} {ps : List Vl}, ps.length = cs.length → (∀ (i : Nat) (x : Vl) u, ps[i]? = some x → cs[i]? = some u → TyV u x) → TyVs cs ps
  | [], [], _, _ => trivial
  | t :: cs, p :: ps, hl, h => ⟨h 0 p t rfl rfl, TyVs.of (by simpa using hl) fun i x u hx hu => h (i + 1) x u (by simpa using hx) (by simpa using hu)⟩
  | [], p :: ps, hl, _ => by simp at hl
  | t :: cs, [], hl, _ => by simp at hl
theorem TyVs.at : ∀ {cs : List Nat} {ps : List Vl}, TyVs cs ps → ∀ (i : Nat) (x : Vl) u, ps[i]? = some x → cs[i]? = some u → TyV u x
  | t :: cs, p :: ps, h, 0, x, u, hx, hu => by simp at hx hu; subst hx; subst hu; exact h.1
  | t :: cs, p :: ps, h, i + 1, x, u, hx, hu => TyVs.at h.2 i x u (by simpa using hx) (by simpa using hu)
  | [], ps, _, i, x, u, _, hu => by simp at hu
theorem tyV_con {t : Nat} {v : Vl} (h : TyV t v) (h0 : 0 < t) : ∃ fs, v.f = 1 ∧ (v.s, fs) ∈ wCons t ∧ TyVs fs v.k := by
  cases h with
  | int _ _ _ => omega
  | con _ _ fs hf hs hl hk => exact ⟨fs, hf, hs, TyVs.of hl hk⟩

/-- The value is what is looked at, for these rows. -/
def Kn.Is : Kn → List Rw → Vl → Prop
  | .con s n, _, v => v.f = 1 ∧ v.s = s ∧ v.k.length = n
  | .int x, _, v => v.f = 2 ∧ v.n = x
  | .none, l, v => ∀ r ∈ l, ∀ p ps, r.ps = p :: ps → p.opn = false → takes p v = false
def Kn.kids : Kn → Vl → List Vl
  | .con _ _, v => v.k
  | _, _ => []
def tk (l : List Rw) (vs : List Vl) : Bool := l.any fun r => takesL r.ps vs

theorem part0 (K : Kn) (y : ByteArray) {r : Rw} {p : Pt} {ps : List Pt} (h : r.ps = p :: ps) :
    part K 0 y r = if p.opn = true then some ⟨List.replicate K.many wildP ++ ps, r.lost ++ (if p.f = 2 then [(p.s, p.t, y)] else []), r.body⟩ else if K.hits p = true then some ⟨p.k ++ ps, r.lost, r.body⟩ else none := by
  unfold part
  rw [h]
  simp

theorem part_takes {K : Kn} {l : List Rw} {y : ByteArray} {r : Rw} {t : Nat} {cs fs : List Nat} {v : Vl} {us : List Vl} (hr : r ∈ l) (ht : TyPs (t :: cs) r.ps) (hK : Fit t K fs) (hv : K.Is l v) :
    takesL r.ps (v :: us) = match part K 0 y r with | some x => takesL x.ps (K.kids v ++ us) | none => false := by
  obtain ⟨ps, lost, body⟩ := r
  cases ps with
  | nil => exact ht.elim
  | cons p ps =>
    rw [part0 K y (r := ⟨p :: ps, lost, body⟩) rfl]
    have hkl : (K.kids v).length = K.many := by
      cases K with
      | con s n => exact hv.2.2
      | _ => rfl
    cases ho : p.opn with
    | true =>
      rw [if_pos rfl]
      simp only [takesL, takes_opn ho, Bool.true_and]
      rw [takesL_app (by rw [hkl]; simp), takesL_wild hkl, Bool.true_and]
    | false =>
      rw [if_neg (by simp)]
      cases K with
      | none =>
        have := hv _ hr p ps rfl ho
        simp only [takesL, this, Kn.hits]
        rfl
      | int x =>
        obtain ⟨h1, h2⟩ := hv
        by_cases h3 : p.f = 3
        · have hk := (ty_int ht.1 h3).2.1
          by_cases hn : p.n = x
          · rw [if_pos (by simp [Kn.hits, h3, hn])]
            simp only [takesL, takes_shut ho, h3, h1, h2, hn, hk, Kn.kids, List.nil_append]
            simp
          · rw [if_neg (by simp [Kn.hits, h3, hn])]
            simp only [takesL, takes_shut ho, h3, h1, h2]
            simp [Ne.symm hn]
        · rw [if_neg (by simp [Kn.hits, h3])]
          simp [takesL, takes_shut ho, h3, h1]
      | con s n =>
        obtain ⟨h1, h2, h3⟩ := hv
        by_cases h4 : p.f = 4
        · by_cases hs : p.s = s
          · have hh : (Kn.con s n).hits p = true := by simp [Kn.hits, h4, hs]
            rw [if_pos hh]
            have hkt := (hits_kids ht.1 hK hh).len
            have hm := hK.many
            simp only [Kn.many] at hm
            simp only [takesL, takes_shut ho, h4, h1, h2, hs, Kn.kids]
            rw [takesL_app (by rw [hkt, h3, hm])]
            simp
          · rw [if_neg (by simp [Kn.hits, h4, hs])]
            simp only [takesL, takes_shut ho, h4, h1, h2]
            simp [Ne.symm hs]
        · rw [if_neg (by simp [Kn.hits, h4])]
          simp [takesL, takes_shut ho, h4, h1]

theorem tk_parts {K : Kn} {y : ByteArray} {t : Nat} {cs fs : List Nat} {v : Vl} {us : List Vl} (hK : Fit t K fs) {l0 : List Rw} (hv : K.Is l0 v) : ∀ {l : List Rw}, (∀ r ∈ l, r ∈ l0) → (∀ r ∈ l, TyPs (t :: cs) r.ps) → tk l (v :: us) = tk (parts K 0 y l) (K.kids v ++ us)
  | [], _, _ => rfl
  | r :: l, hm, hl => by
    have h1 := part_takes (y := y) (us := us) (hm r (by simp)) (hl r (by simp)) hK hv
    have h2 := tk_parts (y := y) (us := us) hK hv (l := l) (fun r hr => hm r (by simp [hr])) (fun r hr => hl r (by simp [hr]))
    unfold tk parts at *
    rw [List.any_cons, h1]
    cases hp : part K 0 y r with
    | none => rw [List.filterMap_cons_none hp]; simpa using h2
    | some x => rw [List.filterMap_cons_some hp, List.any_cons, h2]

/-- A constructor of the type, as the column's constructors tell it. -/
theorem consT_of {t : Nat} {s : ByteArray} {fs : List Nat} (h : (s, fs) ∈ wCons t) : ∃ q ∈ consT t, q.1 = s ∧ q.2.length = fs.length := by
  have h1 : (s, fs.length) ∈ (wCons t).map (fun q => (q.1, q.2.length)) := List.mem_map.2 ⟨_, h, rfl⟩
  rw [← consT_eq] at h1
  obtain ⟨q, hq, he⟩ := List.mem_map.1 h1
  injection he with h2 h3
  exact ⟨q, hq, h2, h3⟩

theorem ints_has {a : Nat} : ∀ {l : List Rw} {out : List Int}, (∀ x ∈ out, x ∈ l.foldl (intStep a) out) ∧ ∀ r ∈ l, ∀ p, r.ps[a]? = some p → p.f = 3 → p.n ∈ l.foldl (intStep a) out
  | [], out => ⟨fun x h => h, fun r hr => by simp at hr⟩
  | r :: l, out => by
    obtain ⟨h1, h2⟩ := ints_has (a := a) (l := l) (out := intStep a out r)
    have h0 : ∀ x ∈ out, x ∈ intStep a out r := fun x hx => by
      unfold intStep
      split
      · split
        · exact List.mem_append_left _ hx
        · exact hx
      · exact hx
    refine ⟨fun x hx => h1 x (h0 x hx), fun r' hr' p hp h3 => ?_⟩
    rcases List.mem_cons.1 hr' with rfl | hr'
    · refine h1 _ ?_
      unfold intStep
      rw [hp]
      simp only
      split
      · simp
      · rename_i hc
        have : p.n ∈ out := by
          by_cases hm : p.n ∈ out
          · exact hm
          · exact absurd ⟨h3, hm⟩ hc
        exact this
    · exact h2 r' hr' p hp h3

theorem max_ge : ∀ {l : List Int} {b : Int}, b ≤ l.foldl max b ∧ ∀ x ∈ l, x ≤ l.foldl max b
  | [], b => ⟨Int.le_refl _, fun x h => by simp at h⟩
  | y :: l, b => by
    obtain ⟨h1, h2⟩ := max_ge (l := l) (b := max b y)
    simp only [List.foldl_cons]
    refine ⟨by omega, fun x hx => ?_⟩
    rcases List.mem_cons.1 hx with rfl | hx
    · omega
    · exact h2 x hx

/-- What stands for all else is taken by no pattern that looks. -/
theorem own_is {l : List Rw} {cs : List Nat} {t : Nat} (hl : ∀ r ∈ l, TyPs (t :: cs) r.ps) (hn : ∀ r ∈ l, ∀ p, r.ps[0]? = some p → p.f ≠ 4) {v : Vl} (hv : takes (ownOf (intsOf 0 l)) v = true) : Kn.none.Is l v := by
  intro r hr p ps hps ho
  rw [takes_shut ho]
  have h4 := hn r hr p (by rw [hps]; rfl)
  by_cases h3 : p.f = 3
  · have hm := (ints_has (a := 0) (l := l) (out := [])).2 r hr p (by rw [hps]; rfl) h3
    change p.n ∈ intsOf 0 l at hm
    have hne : intsOf 0 l ≠ [] := List.ne_nil_of_mem hm
    rw [ownOf, if_neg hne, takes_eq] at hv
    have hge := (max_ge (l := intsOf 0 l) (b := 0)).2 p.n hm
    simp only [intP, Pt.f, Pt.n] at hv
    simp only [Bool.or_eq_true, Bool.and_eq_true, decide_eq_true_eq] at hv
    have hv' : v.f = 2 ∧ v.n = (intsOf 0 l).foldl max 0 + 1 := by
      rcases hv with (h | h) | (h | h)
      · cases h
      · cases h
      · exact ⟨h.2.1, of_decide_eq_true h.2.2⟩
      · cases h.1
    have hnn : v.n ≠ p.n := by omega
    simp [h3, hnn]
  · simp [h3, h4]

/-- What is found missing is taken by none. -/
theorem miss_sound : ∀ (n : Nat) (l : List Rw) (cs : List Nat) (m : List Pt), RowsTy cs n l → miss n l cs.length = some m → ∀ vs, takesL m vs = true → tk l vs = false
  | 0, l, cs, m, h, _, _, _ => by have := h.fuel; omega
  | n + 1, l, [], m, h, hm, vs, hv => by
    cases l with
    | nil => rfl
    | cons r l => simp [miss] at hm
  | n + 1, l, t :: cs, m, h, hm, vs, hv => by
    rcases colCons_ty (a := 0) (t := t) rfl h.tys with ⟨hno, hn4⟩ | ⟨hks, ht0, ht5, h4⟩
    · simp only [List.length_cons, miss, hno] at hm
      have hmem : ∀ x ∈ intsOf 0 l, t = 0 ∧ 0 ≤ x ∧ x < 1000 := ints_mem (a := 0) (t := t) rfl h.tys (fun x hx => by simp at hx)
      split at hm
      · rename_i m' hm'
        injection hm with hm; subst hm
        cases vs with
        | nil => simp [takesL] at hv
        | cons v us =>
          rw [takesL, Bool.and_eq_true] at hv
          rw [tk_parts (y := .empty) (.none t) (own_is h.tys hn4 hv.1) (fun r hr => hr) h.tys]
          exact miss_sound n _ cs m' h.none hm' _ hv.2
      · obtain ⟨x, hx, hq⟩ := List.exists_of_findSome?_eq_some hm
        obtain ⟨m', hm', rfl⟩ := Option.map_eq_some_iff.1 hq
        have ht := (hmem x hx).1
        subst ht
        cases vs with
        | nil => simp [takesL] at hv
        | cons v us =>
          rw [takesL, Bool.and_eq_true, takes_eq] at hv
          have hv1 := hv.1
          simp only [intP, Pt.f, Pt.n, Bool.or_eq_true, Bool.and_eq_true, decide_eq_true_eq] at hv1
          have hv1 : v.f = 2 ∧ v.n = x := by
            rcases hv1 with (h | h) | (h | h)
            · cases h
            · cases h
            · exact ⟨h.2.1, of_decide_eq_true h.2.2⟩
            · cases h.1
          rw [tk_parts (y := .empty) (l0 := l) (.int x) ⟨hv1.1, hv1.2⟩ (fun r hr => hr) h.tys]
          exact miss_sound n _ cs m' (h.int rfl) hm' _ hv.2
    · simp only [List.length_cons, miss, hks] at hm
      obtain ⟨q, hq, hq'⟩ := List.exists_of_findSome?_eq_some hm
      obtain ⟨m', hm', rfl⟩ := Option.map_eq_some_iff.1 hq'
      obtain ⟨fs, hfs, hfl⟩ := consT_at hq
      have hml := miss_len _ _ _ _ hm'
      rw [← hfl] at hm' hv hml
      cases vs with
      | nil => simp [takesL] at hv
      | cons v us =>
        rw [takesL, Bool.and_eq_true, takes_eq] at hv
        obtain ⟨hv1, hv2⟩ := hv
        simp only [conP, Pt.f, Pt.s, Pt.k, Bool.or_eq_true, Bool.and_eq_true, decide_eq_true_eq] at hv1
        have hv1 : (v.f = 1 ∧ v.s = q.1) ∧ takesL (m'.take fs.length) v.k = true := by
          rcases hv1 with (h | h) | (h | h)
          · cases h
          · cases h
          · cases h.1
          · exact ⟨⟨h.2.1.1, of_decide_eq_true h.2.1.2⟩, h.2.2⟩
        obtain ⟨⟨k1, k2⟩, k3⟩ := hv1
        have hvl := takesL_len k3
        rw [List.length_take, hml] at hvl
        have hvl : v.k.length = fs.length := by omega
        rw [tk_parts (y := .empty) (l0 := l) (.con t q.1 fs hfs) ⟨k1, k2, hvl⟩ (fun r hr => hr) h.tys]
        have hm2 : miss n (parts (.con q.1 fs.length) 0 .empty l) (fs ++ cs).length = some m' := by rw [List.length_append]; exact hm'
        refine miss_sound n _ (fs ++ cs) m' (h.con hfs h4) hm2 _ ?_
        show takesL m' (v.k ++ us) = true
        have e : m' = m'.take fs.length ++ m'.drop fs.length := (List.take_append_drop _ _).symm
        rw [e, takesL_app (by rw [List.length_take, hml, hvl]; omega), k3, hv2]; rfl

/-- If nothing is missing, each value is taken. -/
theorem miss_whole : ∀ (n : Nat) (l : List Rw) (cs : List Nat), RowsTy cs n l → miss n l cs.length = none → ∀ vs, TyVs cs vs → tk l vs = true
  | 0, l, cs, h, _, _, _ => by have := h.fuel; omega
  | n + 1, l, [], h, hm, vs, hv => by
    cases l with
    | nil => simp [miss] at hm
    | cons r l =>
      have hr := h.tys r (by simp)
      cases vs with
      | nil =>
        unfold tk
        rw [List.any_cons]
        cases hp : r.ps with
        | nil => rw [takesL]; rfl
        | cons p ps => rw [hp] at hr; exact hr.elim
      | cons v vs => exact hv.elim
  | n + 1, l, t :: cs, h, hm, [], hv => hv.elim
  | n + 1, l, t :: cs, h, hm, v :: us, hv => by
    rcases colCons_ty (a := 0) (t := t) rfl h.tys with ⟨hno, hn4⟩ | ⟨hks, ht0, ht5, h4⟩
    · simp only [List.length_cons, miss, hno] at hm
      split at hm
      · cases hm
      · rename_i hm'
        rw [List.findSome?_eq_none_iff] at hm
        -- an integer that is there, or all else
        by_cases hx : ∃ x ∈ intsOf 0 l, v.f = 2 ∧ v.n = x
        · obtain ⟨x, hx, h1, h2⟩ := hx
          have ht : t = 0 := ((ints_mem (a := 0) (t := t) rfl h.tys (out := []) (fun x hx => by simp at hx)) x hx).1
          subst ht
          rw [tk_parts (y := .empty) (l0 := l) (.int x) ⟨h1, h2⟩ (fun r hr => hr) h.tys]
          exact miss_whole n _ cs (h.int rfl) (by simpa using hm x hx) _ hv.2
        · have his : Kn.none.Is l v := fun r hr p ps hps ho => by
            rw [takes_shut ho]
            have h4 := hn4 r hr p (by rw [hps]; rfl)
            by_cases h3 : p.f = 3
            · have hm := (ints_has (a := 0) (l := l) (out := [])).2 r hr p (by rw [hps]; rfl) h3
              have : ¬ (v.f = 2 ∧ v.n = p.n) := fun hh => hx ⟨p.n, hm, hh.1, hh.2⟩
              simp only [h3, h4]
              simp
              exact fun a b => this ⟨a, b⟩
            · simp [h3, h4]
          rw [tk_parts (y := .empty) (.none t) his (fun r hr => hr) h.tys]
          exact miss_whole n _ cs h.none hm' _ hv.2
    · simp only [List.length_cons, miss, hks] at hm
      rw [List.findSome?_eq_none_iff] at hm
      obtain ⟨fs, k1, k2, k3⟩ := tyV_con hv.1 ht0
      obtain ⟨q, hq, hq1, hq2⟩ := consT_of k2
      have := hm q hq
      rw [hq1, hq2] at this
      rw [tk_parts (y := .empty) (l0 := l) (.con t v.s fs k2) ⟨k1, rfl, k3.len⟩ (fun r hr => hr) h.tys]
      refine miss_whole n _ (fs ++ cs) (h.con k2 h4) (by rw [List.length_append]; simpa using this) _ (k3.app hv.2)

/-- Is a row new to rows? -/
def fresh : Nat → List Rw → Rw → Bool
  | 0, _, _ => false
  | n + 1, l, r => match r.ps with
    | [] => l.isEmpty
    | p :: _ =>
      let within (K : Kn) : Bool := match part K 0 .empty r with
        | some x => fresh n (parts K 0 .empty l) x
        | none => false
      if p.f = 4 then within (.con p.s p.k.length) else if p.f = 3 then within (.int p.n) else match colCons 0 l with
        | some ks => ks.any fun q => within (.con q.1 q.2.length)
        | none => within .none || (intsOf 0 l).any fun x => within (.int x)
end Go.Proofs.YtefdahofpjmnfaaDoor

namespace Go.Proofs.YtefdahofpjmnfaaDoor
open Go Fp
set_option maxRecDepth 10000
set_option maxHeartbeats 4000000

def withinP (n : Nat) (l : List Rw) (r : Rw) (K : Kn) : Bool := match part K 0 .empty r with
  | some x => fresh n (parts K 0 .empty l) x
  | none => false
theorem fresh_cons {n : Nat} {l : List Rw} {r : Rw} {p : Pt} {ps : List Pt} (h : r.ps = p :: ps) :
    fresh (n + 1) l r = if p.f = 4 then withinP n l r (.con p.s p.k.length) else if p.f = 3 then withinP n l r (.int p.n) else match colCons 0 l with
      | some ks => ks.any fun q => withinP n l r (.con q.1 q.2.length)
      | none => withinP n l r .none || (intsOf 0 l).any fun x => withinP n l r (.int x) := by
  rw [fresh]
  simp only [h]
  rfl

theorem parts_cons {K : Kn} {y : ByteArray} {l : List Rw} {r x : Rw} (h : part K 0 y r = some x) : parts K 0 y (r :: l) = x :: parts K 0 y l := by
  unfold parts; rw [List.filterMap_cons_some h]

/-- Values that are of types: there is one that a pattern for all else takes. -/
theorem inhab {t : Nat} (ht : t < 5) : ∃ v, TyV t v := by
  match t with
  | 0 => exact ⟨.mk 2 0 .empty [], .int _ rfl rfl⟩
  | 1 => exact ⟨.mk 1 0 sFalse [], .con 1 _ [] rfl (by simp [wCons, Vl.s]) rfl (fun i x u hx => by simp [Vl.k] at hx)⟩
  | 2 => exact ⟨.mk 1 0 sN [], .con 2 _ [] rfl (by simp [wCons, Vl.s]) rfl (fun i x u hx => by simp [Vl.k] at hx)⟩
  | 3 => exact ⟨.mk 1 0 sA [], .con 3 _ [] rfl (by simp [wCons, Vl.s]) rfl (fun i x u hx => by simp [Vl.k] at hx)⟩
  | 4 => exact ⟨.mk 1 0 sN [], .con 4 _ [] rfl (by simp [wCons, Vl.s]) rfl (fun i x u hx => by simp [Vl.k] at hx)⟩
  | n + 5 => omega
theorem own_inhab {l : List Rw} {cs : List Nat} {t : Nat} (ht : t < 5) (hl : ∀ r ∈ l, TyPs (t :: cs) r.ps) : ∃ v, TyV t v ∧ takes (ownOf (intsOf 0 l)) v = true := by
  by_cases h : intsOf 0 l = []
  · obtain ⟨v, hv⟩ := inhab ht
    exact ⟨v, hv, by rw [ownOf, if_pos h]; exact takes_opn wild_opn v⟩
  · obtain ⟨x, hx⟩ := List.exists_mem_of_ne_nil _ h
    have := (ints_mem (a := 0) (t := t) rfl hl (out := []) (fun x hx => by simp at hx) x hx).1
    subst this
    refine ⟨.mk 2 ((intsOf 0 l).foldl max 0 + 1) .empty [], .int _ rfl rfl, ?_⟩
    rw [ownOf, if_neg h, takes_eq]
    simp [intP, Pt.f, Pt.n, Vl.f, Vl.n]

section
variable {n t : Nat} {cs fs : List Nat} {l : List Rw} {r : Rw} {K : Kn}

theorem within_yes (h : ∀ x, part K 0 .empty r = some x → RowsTy (fs ++ cs) n (x :: parts K 0 .empty l)) (ht : ∀ q ∈ r :: l, TyPs (t :: cs) q.ps) (hK : Fit t K fs)
    (ih : ∀ x, RowsTy (fs ++ cs) n (x :: parts K 0 .empty l) → fresh n (parts K 0 .empty l) x = true → ∃ vs, TyVs (fs ++ cs) vs ∧ takesL x.ps vs = true ∧ tk (parts K 0 .empty l) vs = false)
    (hv : ∀ a, TyVs fs a → ∃ v, TyV t v ∧ K.Is l v ∧ K.Is [r] v ∧ K.kids v = a) (hw : withinP n l r K = true) : ∃ vs, TyVs (t :: cs) vs ∧ takesL r.ps vs = true ∧ tk l vs = false := by
  unfold withinP at hw
  cases hp : part K 0 .empty r with
  | none => rw [hp] at hw; cases hw
  | some x =>
    rw [hp] at hw
    obtain ⟨vs, h1, h2, h3⟩ := ih x (h x hp) hw
    obtain ⟨a, b, rfl, ha, hb⟩ := h1.split
    obtain ⟨v, v1, v2, v3, rfl⟩ := hv a ha
    refine ⟨v :: b, ⟨v1, hb⟩, ?_, ?_⟩
    · rw [part_takes (l := [r]) (y := .empty) (us := b) (by simp) (ht r (by simp)) hK v3, hp]; exact h2
    · rw [tk_parts (y := .empty) (us := b) hK v2 (fun r hr => hr) (fun q hq => ht q (by simp [hq]))]; exact h3

theorem within_no (h : ∀ x, part K 0 .empty r = some x → RowsTy (fs ++ cs) n (x :: parts K 0 .empty l)) (ht : ∀ q ∈ r :: l, TyPs (t :: cs) q.ps) (hK : Fit t K fs)
    (ih : ∀ x, RowsTy (fs ++ cs) n (x :: parts K 0 .empty l) → fresh n (parts K 0 .empty l) x = false → ∀ vs, TyVs (fs ++ cs) vs → takesL x.ps vs = true → tk (parts K 0 .empty l) vs = true)
    {v : Vl} {us : List Vl} (h1 : K.Is l v) (h2 : K.Is [r] v) (h3 : TyVs (fs ++ cs) (K.kids v ++ us)) (hw : withinP n l r K = false) (hv : takesL r.ps (v :: us) = true) : tk l (v :: us) = true := by
  unfold withinP at hw
  rw [part_takes (l := [r]) (y := .empty) (us := us) (by simp) (ht r (by simp)) hK h2] at hv
  cases hp : part K 0 .empty r with
  | none => rw [hp] at hv; cases hv
  | some x =>
    rw [hp] at hw hv
    rw [tk_parts (y := .empty) (us := us) hK h1 (fun r hr => hr) (fun q hq => ht q (by simp [hq]))]
    exact ih x (h x hp) hw _ h3 hv
end

theorem is_none_one {r : Rw} {p : Pt} {ps : List Pt} (hp : r.ps = p :: ps) (ho : p.opn = true) (v : Vl) : Kn.none.Is [r] v := fun q hq p' ps' hp' ho' => by
  simp at hq; subst hq
  rw [hp] at hp'; injection hp' with h1 h2; subst h1
  rw [ho] at ho'; cases ho'

theorem RowsTy.tail {cs : List Nat} {n : Nat} {r : Rw} {l : List Rw} (h : RowsTy cs n (r :: l)) : RowsTy cs n l :=
  ⟨fun q hq => h.row q (by simp [hq]), h.col, by have := h.len; simp at this; omega, by have := h.fuel; simp only [wt] at this; omega, h.cap⟩

theorem open_form {t : Nat} {p : Pt} (h : TyP t p) (h4 : p.f ≠ 4) (h3 : p.f ≠ 3) : p.opn = true := by
  have := h.form.1
  unfold Pt.opn
  rcases this with h | h | h | h
  · simp [h]
  · simp [h]
  · exact absurd h.1 h3
  · exact absurd h h4

theorem fresh_yes : ∀ (n : Nat) (l : List Rw) (r : Rw) (cs : List Nat), RowsTy cs n (r :: l) → fresh n l r = true → ∃ vs, TyVs cs vs ∧ takesL r.ps vs = true ∧ tk l vs = false
  | 0, l, r, cs, h, _ => by have := h.fuel; omega
  | n + 1, l, r, [], h, hf => by
    have hr := h.tys r (by simp)
    cases hp : r.ps with
    | cons p ps => rw [hp] at hr; exact hr.elim
    | nil =>
      rw [fresh, hp] at hf
      cases l with
      | nil => exact ⟨[], trivial, by rw [takesL], rfl⟩
      | cons q l => cases hf
  | n + 1, l, r, t :: cs, h, hf => by
    have hr := h.tys r (by simp)
    cases hp : r.ps with
    | nil => rw [hp] at hr; exact hr.elim
    | cons p ps =>
      rw [← hp]
      rw [hp] at hr
      rw [fresh_cons hp] at hf
      have hcol := h.tail.tys
      have ih := fun (fs : List Nat) (K : Kn) (x : Rw) (hx : RowsTy (fs ++ cs) n (x :: parts K 0 .empty l)) hy => fresh_yes n (parts K 0 .empty l) x (fs ++ cs) hx hy
      by_cases h4 : p.f = 4
      · rw [if_pos h4] at hf
        obtain ⟨fs, hs, hk⟩ := ty_con hr.1 h4
        rw [hk.len] at hf
        have hh : ∃ q ∈ r :: l, ∃ p, q.ps[0]? = some p ∧ p.f = 4 := ⟨r, by simp, p, by rw [hp]; rfl, h4⟩
        refine within_yes (fun x hx => by rw [← parts_cons hx]; exact h.con hs hh) h.tys (.con t p.s fs hs) (ih fs _) (fun a ha => ?_) hf
        exact ⟨.mk 1 0 p.s a, .con t _ fs rfl hs ha.len ha.at, ⟨rfl, rfl, ha.len⟩, ⟨rfl, rfl, ha.len⟩, rfl⟩
      rw [if_neg h4] at hf
      by_cases h3 : p.f = 3
      · rw [if_pos h3] at hf
        obtain ⟨rfl, _, _⟩ := ty_int hr.1 h3
        refine within_yes (fs := []) (fun x hx => by rw [← parts_cons hx]; exact h.int rfl) h.tys (.int p.n) (ih [] _) (fun a ha => ?_) hf
        cases a with
        | nil => exact ⟨.mk 2 p.n .empty [], .int _ rfl rfl, ⟨rfl, rfl⟩, ⟨rfl, rfl⟩, rfl⟩
        | cons _ _ => exact ha.elim
      rw [if_neg h3] at hf
      have ho := open_form hr.1 h4 h3
      have ht5 := h.col t (by simp)
      rcases colCons_ty (a := 0) (t := t) rfl hcol with ⟨hno, hn4⟩ | ⟨hks, ht0, _, hh⟩
      · rw [hno] at hf
        simp only [Bool.or_eq_true, List.any_eq_true] at hf
        rcases hf with hf | ⟨x, hx, hf⟩
        · refine within_yes (fs := []) (fun x hx => by rw [← parts_cons hx]; exact h.none) h.tys (.none t) (ih [] _) (fun a ha => ?_) hf
          obtain ⟨v, v1, v2⟩ := own_inhab ht5 hcol
          cases a with
          | nil => exact ⟨v, v1, own_is hcol hn4 v2, is_none_one hp ho v, rfl⟩
          | cons _ _ => exact ha.elim
        · have := (ints_mem (a := 0) (t := t) rfl hcol (out := []) (fun x hx => by simp at hx) x hx).1
          subst this
          refine within_yes (fs := []) (fun x hx => by rw [← parts_cons hx]; exact h.int rfl) h.tys (.int x) (ih [] _) (fun a ha => ?_) hf
          cases a with
          | nil => exact ⟨.mk 2 x .empty [], .int _ rfl rfl, ⟨rfl, rfl⟩, ⟨rfl, rfl⟩, rfl⟩
          | cons _ _ => exact ha.elim
      · rw [hks] at hf
        simp only [List.any_eq_true] at hf
        obtain ⟨q, hq, hf⟩ := hf
        obtain ⟨fs, hfs, hfl⟩ := consT_at hq
        rw [← hfl] at hf
        have hh' : ∃ q ∈ r :: l, ∃ p, q.ps[0]? = some p ∧ p.f = 4 := let ⟨q, h1, h2⟩ := hh; ⟨q, by simp [h1], h2⟩
        refine within_yes (fun x hx => by rw [← parts_cons hx]; exact h.con hfs hh') h.tys (.con t q.1 fs hfs) (ih fs _) (fun a ha => ?_) hf
        exact ⟨.mk 1 0 q.1 a, .con t _ fs rfl hfs ha.len ha.at, ⟨rfl, rfl, ha.len⟩, ⟨rfl, rfl, ha.len⟩, rfl⟩

theorem fresh_no : ∀ (n : Nat) (l : List Rw) (r : Rw) (cs : List Nat), RowsTy cs n (r :: l) → fresh n l r = false → ∀ vs, TyVs cs vs → takesL r.ps vs = true → tk l vs = true
  | 0, l, r, cs, h, _ => by have := h.fuel; omega
  | n + 1, l, r, [], h, hf => by
    have hr := h.tys r (by simp)
    intro vs hv hrv
    cases vs with
    | cons _ _ => exact hv.elim
    | nil =>
      cases hp : r.ps with
      | cons p ps => rw [hp] at hr; exact hr.elim
      | nil =>
        rw [fresh, hp] at hf
        cases l with
        | nil => cases hf
        | cons q l =>
          have hq := h.tys q (by simp)
          unfold tk
          rw [List.any_cons]
          cases hqp : q.ps with
          | nil => rw [takesL]; rfl
          | cons p ps => rw [hqp] at hq; exact hq.elim
  | n + 1, l, r, t :: cs, h, hf => by
    have hr := h.tys r (by simp)
    intro vs hv hrv
    cases vs with
    | nil => exact hv.elim
    | cons v us =>
    cases hp : r.ps with
    | nil => rw [hp] at hr; exact hr.elim
    | cons p ps =>
      have hrv' := hrv
      rw [hp, takesL, Bool.and_eq_true] at hrv'
      rw [hp] at hr
      rw [fresh_cons hp] at hf
      have hcol := h.tail.tys
      have ih := fun (fs : List Nat) (K : Kn) (x : Rw) (hx : RowsTy (fs ++ cs) n (x :: parts K 0 .empty l)) hy => fresh_no n (parts K 0 .empty l) x (fs ++ cs) hx hy
      by_cases h4 : p.f = 4
      · rw [if_pos h4] at hf
        obtain ⟨fs, hs, hk⟩ := ty_con hr.1 h4
        rw [hk.len] at hf
        have hh : ∃ q ∈ r :: l, ∃ p, q.ps[0]? = some p ∧ p.f = 4 := ⟨r, by simp, p, by rw [hp]; rfl, h4⟩
        have hst : 0 < t := (wCons_fs hs).2.2.1
        have ht := hrv'.1
        rw [takes_eq] at ht
        simp [h4] at ht
        obtain ⟨⟨v1, v2⟩, v3⟩ := ht
        obtain ⟨gs, _, g2, g3⟩ := tyV_con hv.1 hst
        rw [v2] at g2
        have := wCons_uniq hs g2
        subst this
        exact within_no (fun x hx => by rw [← parts_cons hx]; exact h.con hs hh) h.tys (.con t p.s fs hs) (ih fs _) ⟨v1, v2, g3.len⟩ ⟨v1, v2, g3.len⟩ (g3.app hv.2) hf hrv
      rw [if_neg h4] at hf
      by_cases h3 : p.f = 3
      · rw [if_pos h3] at hf
        obtain ⟨rfl, _, _⟩ := ty_int hr.1 h3
        have ht := hrv'.1
        rw [takes_eq] at ht
        simp [h3] at ht
        exact within_no (fs := []) (fun x hx => by rw [← parts_cons hx]; exact h.int rfl) h.tys (.int p.n) (ih [] _) ⟨ht.1, ht.2⟩ ⟨ht.1, ht.2⟩ hv.2 hf hrv
      rw [if_neg h3] at hf
      have ho := open_form hr.1 h4 h3
      have ht5 := h.col t (by simp)
      rcases colCons_ty (a := 0) (t := t) rfl hcol with ⟨hno, hn4⟩ | ⟨hks, ht0, _, hh⟩
      · rw [hno] at hf
        simp only [Bool.or_eq_false_iff, List.any_eq_false] at hf
        by_cases hx : ∃ x ∈ intsOf 0 l, v.f = 2 ∧ v.n = x
        · obtain ⟨x, hx, h1, h2⟩ := hx
          have := (ints_mem (a := 0) (t := t) rfl hcol (out := []) (fun x hx => by simp at hx) x hx).1
          subst this
          exact within_no (fs := []) (fun x hx => by rw [← parts_cons hx]; exact h.int rfl) h.tys (.int x) (ih [] _) ⟨h1, h2⟩ ⟨h1, h2⟩ hv.2 (by simpa using hf.2 x hx) hrv
        · have his : Kn.none.Is l v := fun q hq p ps hps ho => by
            rw [takes_shut ho]
            have h4 := hn4 q hq p (by rw [hps]; rfl)
            by_cases h3 : p.f = 3
            · have hm := (ints_has (a := 0) (l := l) (out := [])).2 q hq p (by rw [hps]; rfl) h3
              have : ¬ (v.f = 2 ∧ v.n = p.n) := fun hh => hx ⟨p.n, hm, hh.1, hh.2⟩
              simp only [h3, h4]
              simp
              exact fun a b => this ⟨a, b⟩
            · simp [h3, h4]
          exact within_no (fs := []) (fun x hx => by rw [← parts_cons hx]; exact h.none) h.tys (.none t) (ih [] _) his (is_none_one hp ho v) hv.2 hf.1 hrv
      · rw [hks] at hf
        simp only [List.any_eq_false] at hf
        obtain ⟨fs, k1, k2, k3⟩ := tyV_con hv.1 ht0
        obtain ⟨q, hq, hq1, hq2⟩ := consT_of k2
        have hq' := hf q hq
        rw [hq1, hq2] at hq'
        have hh' : ∃ q ∈ r :: l, ∃ p, q.ps[0]? = some p ∧ p.f = 4 := let ⟨q, h1, h2⟩ := hh; ⟨q, by simp [h1], h2⟩
        exact within_no (fun x hx => by rw [← parts_cons hx]; exact h.con k2 hh') h.tys (.con t v.s fs k2) (ih fs _) ⟨k1, rfl, k3.len⟩ ⟨k1, rfl, k3.len⟩ (k3.app hv.2) (by simpa using hq') hrv

/-- What is missing stands for values of the columns' types. -/
theorem miss_val : ∀ (n : Nat) (l : List Rw) (cs : List Nat) (m : List Pt), RowsTy cs n l → miss n l cs.length = some m → ∃ vs, TyVs cs vs ∧ takesL m vs = true
  | 0, l, cs, m, h, _ => by have := h.fuel; omega
  | n + 1, l, [], m, h, hm => by
    cases l with
    | nil => simp [miss] at hm; subst hm; exact ⟨[], trivial, by rw [takesL]⟩
    | cons r l => simp [miss] at hm
  | n + 1, l, t :: cs, m, h, hm => by
    rcases colCons_ty (a := 0) (t := t) rfl h.tys with ⟨hno, hn4⟩ | ⟨hks, ht0, ht5, h4⟩
    · simp only [List.length_cons, miss, hno] at hm
      have hmem : ∀ x ∈ intsOf 0 l, t = 0 ∧ 0 ≤ x ∧ x < 1000 := ints_mem (a := 0) (t := t) rfl h.tys (fun x hx => by simp at hx)
      split at hm
      · rename_i m' hm'
        injection hm with hm; subst hm
        obtain ⟨us, u1, u2⟩ := miss_val n _ cs m' h.none hm'
        obtain ⟨v, v1, v2⟩ := own_inhab (h.col t (by simp)) h.tys
        exact ⟨v :: us, ⟨v1, u1⟩, by rw [takesL, v2, u2]; rfl⟩
      · obtain ⟨x, hx, hq⟩ := List.exists_of_findSome?_eq_some hm
        obtain ⟨m', hm', rfl⟩ := Option.map_eq_some_iff.1 hq
        obtain ⟨rfl, ht⟩ := hmem x hx
        obtain ⟨us, u1, u2⟩ := miss_val n _ cs m' (h.int rfl) hm'
        refine ⟨.mk 2 x .empty [] :: us, ⟨.int _ rfl rfl, u1⟩, ?_⟩
        rw [takesL, u2, takes_eq]
        simp [intP, Pt.f, Pt.n, Vl.f, Vl.n]
    · simp only [List.length_cons, miss, hks] at hm
      obtain ⟨q, hq, hq'⟩ := List.exists_of_findSome?_eq_some hm
      obtain ⟨m', hm', rfl⟩ := Option.map_eq_some_iff.1 hq'
      obtain ⟨fs, hfs, hfl⟩ := consT_at hq
      have hm2 : miss n (parts (.con q.1 fs.length) 0 .empty l) (fs ++ cs).length = some m' := by rw [List.length_append, hfl]; exact hm'
      obtain ⟨vs, u1, u2⟩ := miss_val n _ (fs ++ cs) m' (h.con hfs h4) hm2
      obtain ⟨a, b, rfl, ha, hb⟩ := u1.split
      have hml := miss_len _ _ _ _ hm'
      refine ⟨.mk 1 0 q.1 a :: b, ⟨.con t _ fs rfl hfs ha.len ha.at, hb⟩, ?_⟩
      have e : m' = m'.take fs.length ++ m'.drop fs.length := (List.take_append_drop _ _).symm
      rw [e, takesL_app (by rw [List.length_take, ha.len]; omega), Bool.and_eq_true] at u2
      rw [← hfl, takesL, u2.2, takes_eq]
      simp only [conP, Pt.f, Pt.s, Pt.k, Vl.f, Vl.s, Vl.k]
      rw [u2.1]
      simp

/-! The statements' own sentences. -/
theorem rowsFrom_get : ∀ (l : List Pt) (n k : Nat), (rowsFrom n l)[k]? = (l[k]?).map fun p => ⟨[p], [], n + k⟩
  | [], _, _ => by simp [rowsFrom]
  | p :: l, n, 0 => by simp [rowsFrom]
  | p :: l, n, k + 1 => by simp only [rowsFrom, List.getElem?_cons_succ, rowsFrom_get l (n + 1) k]; rw [show n + 1 + k = n + (k + 1) by omega]
theorem rowsFrom_take : ∀ (l : List Pt) (n k : Nat), (rowsFrom n l).take k = rowsFrom n (l.take k)
  | [], _, k => by simp [rowsFrom]
  | p :: l, n, 0 => by simp [rowsFrom]
  | p :: l, n, k + 1 => by simp [rowsFrom, rowsFrom_take l (n + 1) k]
theorem rowsFrom_app : ∀ (l m : List Pt) (n : Nat), rowsFrom n (l ++ m) = rowsFrom n l ++ rowsFrom (n + l.length) m
  | [], m, n => rfl
  | p :: l, m, n => by simp only [List.cons_append, rowsFrom, rowsFrom_app l m, List.length_cons]; rw [show n + 1 + l.length = n + (l.length + 1) by omega]
theorem tk_rows : ∀ (l : List Pt) (n : Nat) (v : Vl), tk (rowsFrom n l) [v] = l.any fun p => takes p v
  | [], _, _ => rfl
  | p :: l, n, v => by
    have := tk_rows l (n + 1) v
    unfold tk at *
    simp only [rowsFrom, List.any_cons, takesL, Bool.and_true, this]

theorem wt_rows : ∀ (l : List Pt) (n c : Nat), (∀ p ∈ l, p.sz ≤ c) → wt (rowsFrom n l) ≤ l.length * c
  | [], _, _, _ => by simp [rowsFrom, wt]
  | p :: l, n, c, h => by
    have := wt_rows l (n + 1) c (fun q hq => h q (by simp [hq]))
    have h1 := h p (by simp)
    have h2 : p.nodes ≤ p.sz := nodes_sz p
    simp only [rowsFrom, wt, nodesL, List.length_cons, Nat.add_mul, Nat.one_mul]
    omega
theorem rows_ty {l : List Pt} {t n c : Nat} (ht : t < 5) (h : ∀ p ∈ l, TyP t p ∧ p.sz ≤ c) (hl : 3 * (l.length * c) + 1 < n) (hn : n < 9000) (hll : l.length < 100) : RowsTy [t] n (rowsFrom 0 l) := by
  have hw := wt_rows l 0 c (fun p hp => (h p hp).2)
  refine ⟨fun r hr => ?_, fun u hu => by simp at hu; omega, by rw [rowsFrom_len]; omega, by simp; omega, by omega⟩
  obtain ⟨k, hk⟩ := List.getElem?_of_mem hr
  rw [rowsFrom_get] at hk
  obtain ⟨p, hp, rfl⟩ := Option.map_eq_some_iff.1 hk
  exact ⟨⟨(h p (List.mem_of_getElem? hp)).1, trivial⟩, by simp; omega⟩
end Go.Proofs.YtefdahofpjmnfaaDoor

namespace Go.Proofs.YtefdahofpjmnfaaDoor
open Go Fp
set_option maxRecDepth 10000
set_option maxHeartbeats 16000000

abbrev sv (n : Int) : SV := .v (.lit (.int .i64 n))
theorem svc {n m : Int} (h : n = m) : SV.v (AV.lit (Value.int .i64 n)) = SV.v (AV.lit (Value.int .i64 m)) := by rw [h]
theorem lenI (l : List Int) : (eIs l).length = l.length := by simp [eIs]
theorem lenC (l : List (ByteArray × List Tp)) : (eCons l).length = l.length := by simp [eCons]
theorem lenT (l : List Tp) : (eTys l).length = l.length := by simp [eTys]
theorem conP_e (s : ByteArray) (m : List Pt) : aPt 4 0 s (ePts m) .no [] = ePt (conP s m) := aPt_eq 4 0 s m .no []

theorem conTup (s : ByteArray) (L K : List AV) (A B : List Pt) (h : L = ePts A) (k : K = ePts B) : AV.tup [.sl ([aPt 4 0 s ([] ++ L) .no []] ++ K), .sb true] = missOr (some (conP s A :: B)) := by
  rw [h, k, List.nil_append, conP_e]; rfl
theorem ownTup (p : Pt) (K : List AV) (B : List Pt) (k : K = ePts B) : AV.tup [.sl ([ePt p] ++ K), .sb true] = missOr (some (p :: B)) := by
  rw [k]; rfl

end Go.Proofs.YtefdahofpjmnfaaDoor

namespace Go.Proofs.YtefdahofpjmnfaaDoor
open Go Fp
set_option maxRecDepth 10000
set_option maxHeartbeats 16000000

end Go.Proofs.YtefdahofpjmnfaaDoor

namespace Go.Proofs.YtefdahofpjmnfaaDoor
open Go Fp
set_option maxRecDepth 10000
set_option maxHeartbeats 16000000

theorem not_t {b : Bool} (h : (!b) = true) : b = false := by cases b <;> simp_all
theorem not_f {b : Bool} (h : (!b) = false) : b = true := by cases b <;> simp_all
theorem any_take {α : Type} {l : List α} {f : α → Bool} {k : Nat} (h : k < l.length) : (l.take (k + 1)).any f = ((l.take k).any f || f l[k]) := by
  rw [List.take_succ_eq_append_getElem h, List.any_append]; simp
theorem any_take_true {α : Type} {l : List α} {f : α → Bool} {k : Nat} (h : (l.take k).any f = true) : l.any f = true := by
  rw [List.any_eq_true] at h ⊢
  obtain ⟨x, hx, h⟩ := h
  exact ⟨x, List.mem_of_mem_take hx, h⟩

end Go.Proofs.YtefdahofpjmnfaaDoor

namespace Go.Proofs.YtefdahofpjmnfaaDoor
open Go Fp
set_option maxRecDepth 10000
set_option maxHeartbeats 16000000

theorem szL_take : ∀ (l : List Pt) (k : Nat), szL (l.take k) + szL (l.drop k) = szL l
  | [], k => by simp [szL]
  | p :: l, 0 => by simp [szL]
  | p :: l, k + 1 => by have := szL_take l k; simp only [List.take_succ_cons, List.drop_succ_cons, szL]; omega
theorem miss_sz : ∀ (n : Nat) (l : List Rw) (c : Nat) (m : List Pt), miss n l c = some m → szL m ≤ n
  | 0, _, _, _, h => by simp [miss] at h
  | n + 1, l, 0, m, h => by
    cases l with
    | nil => simp [miss] at h; subst h; simp [szL]
    | cons r l => simp [miss] at h
  | n + 1, l, c + 1, m, h => by
    unfold miss at h
    split at h
    · obtain ⟨q, _, hq⟩ := List.exists_of_findSome?_eq_some h
      obtain ⟨m', hm, rfl⟩ := Option.map_eq_some_iff.1 hq
      have := miss_sz n _ _ _ hm
      have h2 := szL_take m' q.2.length
      simp only [szL, conP, Pt.sz]; omega
    · split at h
      · rename_i m' hm
        injection h with h; subst h
        have := miss_sz n _ _ _ hm
        have h1 : (ownOf (intsOf 0 l)).sz = 1 := by unfold ownOf; split <;> rfl
        simp only [szL, h1]; omega
      · obtain ⟨q, _, hq⟩ := List.exists_of_findSome?_eq_some h
        obtain ⟨m', hm, rfl⟩ := Option.map_eq_some_iff.1 hq
        have := miss_sz n _ _ _ hm
        simp only [szL, intP, Pt.sz]; omega

theorem wt_le : ∀ (l : List Rw), (∀ r ∈ l, nodesL r.ps ≤ 15) → wt l ≤ l.length * 15
  | [], _ => by simp [wt]
  | r :: l, h => by
    have h1 := h r (by simp)
    have := wt_le l (fun r hr => h r (by simp [hr]))
    simp only [wt, List.length_cons, Nat.add_mul, Nat.one_mul]; omega
theorem rowsTy_of {t : Nat} {l : List Rw} (ht : t < 5) (hl : l.length ≤ 6) (h : ∀ r ∈ l, RowTy [t] 300 r ∧ nodesL r.ps ≤ 15) : RowsTy [t] 300 l := by
  have := wt_le l (fun r hr => (h r hr).2)
  exact ⟨fun r hr => (h r hr).1, fun u hu => by simp at hu; omega, by omega, by simp; omega, by omega⟩
/-- Patterns of a type, not too many. -/
def PatsOk (t : Nat) (l : List Pt) : Prop := t < 5 ∧ l.length ≤ 6 ∧ ∀ p ∈ l, TyP t p ∧ p.sz ≤ 15
theorem PatsOk.rows {t : Nat} {l : List Pt} (h : PatsOk t l) : ∀ r ∈ rowsFrom 0 l, RowTy [t] 300 r ∧ nodesL r.ps ≤ 15 := fun r hr => by
  obtain ⟨k, hk⟩ := List.getElem?_of_mem hr
  rw [rowsFrom_get] at hk
  obtain ⟨p, hp, rfl⟩ := Option.map_eq_some_iff.1 hk
  have := h.2.2 p (List.mem_of_getElem? hp)
  have h2 := nodes_sz p
  exact ⟨⟨⟨this.1, trivial⟩, by simp⟩, by simp only [nodesL]; omega⟩
theorem PatsOk.all {t : Nat} {l : List Pt} (h : PatsOk t l) : RowsTy [t] 300 (rowsFrom 0 l) := rowsTy_of h.1 (by rw [rowsFrom_len]; exact h.2.1) h.rows
theorem PatsOk.at {t : Nat} {l : List Pt} (h : PatsOk t l) {k : Nat} (hk : k < (rowsFrom 0 l).length) : RowsTy [t] 300 ((rowsFrom 0 l)[k] :: (rowsFrom 0 l).take k) := by
  have h2 := h.2.1
  rw [← rowsFrom_len l 0] at h2
  refine rowsTy_of h.1 (by rw [List.length_cons, List.length_take]; omega) fun r hr => ?_
  rcases List.mem_cons.1 hr with rfl | hr
  · exact h.rows _ (List.getElem_mem hk)
  · exact h.rows _ (List.mem_of_mem_take hr)

def zeroP : Pt := .mk 0 0 .empty .no [] []
def misOr : Option (List Pt) → AV
  | some (m :: _) => .tup [ePt m, .sb true]
  | _ => .tup [ePt zeroP, .sb false]
/-- What is missing of patterns. -/
def missOf (l : List Pt) : Option (List Pt) := miss 300 (rowsFrom 0 l) 1

/-- The numbers of those that are never come to, of the first ones. -/
def usl (rows : List Rw) : Nat → List Int
  | 0 => []
  | k + 1 => usl rows k ++ (match rows[k]? with
    | some r => if fresh 300 (rows.take k) r = true then [] else [((k : Nat) : Int)]
    | none => [])
theorem usl_le (rows : List Rw) : ∀ k, (usl rows k).length ≤ k
  | 0 => Nat.le_refl _
  | k + 1 => by
    have := usl_le rows k
    rw [usl, List.length_append]
    split
    · split <;> simp <;> omega
    · simp; omega
def uslOf (l : List Pt) : List Int := usl (rowsFrom 0 l) l.length

end Go.Proofs.YtefdahofpjmnfaaDoor
