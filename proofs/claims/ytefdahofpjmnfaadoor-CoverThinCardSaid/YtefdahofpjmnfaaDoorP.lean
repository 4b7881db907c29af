/- What compiled cases come to, whole. Plain. No condition. -/
import Derived.Test.YtefdahofpjmnfaaDoorO
import Derived.Test.YtefdahofpjmnfaaDoorK
set_option linter.unusedSimpArgs false
set_option linter.unusedVariables false
namespace Go.Proofs.YtefdahofpjmnfaaDoor
open Go Fp
set_option maxRecDepth 10000
set_option maxHeartbeats 4000000
set_option linter.unusedVariables false
set_option linter.unusedSimpArgs false

theorem opn_kids {t : Nat} {p : Pt} (h : TyP t p) (ho : p.opn = true) : p.k = [] := by
  cases h with
  | any _ _ _ hk _ => exact hk
  | int _ h3 hk => exact hk
  | con _ _ _ h4 => unfold Pt.opn at ho; simp [h4] at ho
theorem takesL_opn : ∀ {ps : List Pt} {vs : List Vl}, (∀ x ∈ ps, x.opn = true) → ps.length = vs.length → takesL ps vs = true
  | [], [], _, _ => by rw [takesL]
  | p :: ps, v :: vs, h, hl => by rw [takesL, takes_opn (h p (by simp)), takesL_opn (fun x hx => h x (by simp [hx])) (by simpa using hl)]; rfl
  | [], _ :: _, _, h => by simp at h
  | _ :: _, [], _, h => by simp at h
theorem ownB_cons (p : Pt) (ps : List Pt) (s : ByteArray) (ns : List ByteArray) : ownB (p :: ps) (s :: ns) = (if p.f = 2 then [(p.s, p.t, s)] else []) ++ ownB ps ns := by
  unfold ownB
  rw [List.zip_cons_cons, List.filterMap_cons]
  by_cases h : p.f = 2 <;> simp [h]
/-- The names that a row of patterns that take all gives. -/
theorem own_facts {v0 : Vl} {env : List Nv} : ∀ {cs : List Nat} {ps : List Pt} {ns : List ByteArray} {vs : List Vl}, TyPs cs ps → (∀ x ∈ ps, x.opn = true) → ns.length = cs.length → vs.length = cs.length →
    (∀ (i : Nat) s x, ns[i]? = some s → vs[i]? = some x → Tr v0 s x ∧ s ∈ env.map (·.1)) →
    (ownB ps ns).map (·.1) = namesL ps ∧ (∀ q ∈ ownB ps ns, q.2.2 ∈ env.map (·.1)) ∧ ∀ y ∈ boundL ps vs, ∃ q ∈ ownB ps ns, q.1 = y.1 ∧ Tr v0 q.2.2 y.2
  | [], [], ns, vs, _, _, _, _, _ => ⟨by simp [ownB, namesL], by simp [ownB], fun y hy => by rw [boundL_nil] at hy; simp at hy⟩
  | t :: cs, p :: ps, s :: ns, v :: vs, ht, ho, hn, hv, h => by
    obtain ⟨i1, i2, i3⟩ := own_facts (cs := cs) (ps := ps) (ns := ns) (vs := vs) ht.2 (fun x hx => ho x (by simp [hx])) (by simpa using hn) (by simpa using hv) (fun i s x hs hx => h (i + 1) s x (by simpa using hs) (by simpa using hx))
    obtain ⟨h1, h2⟩ := h 0 s v rfl rfl
    have hk := opn_kids ht.1 (ho p (by simp))
    rw [ownB_cons, namesL, boundL_cons, names_eq, bound_eq, hk, boundL_nil, namesL]
    by_cases hp : p.f = 2
    · simp only [if_pos hp]
      refine ⟨by rw [List.map_append, i1]; rfl, fun q hq => ?_, fun y hy => ?_⟩
      · rcases List.mem_append.1 hq with hq | hq
        · simp at hq; subst hq; exact h2
        · exact i2 q hq
      · rcases List.mem_append.1 hy with hy | hy
        · simp at hy; subst hy
          exact ⟨(p.s, p.t, s), by simp, rfl, h1⟩
        · obtain ⟨q, hq, a, b⟩ := i3 y hy
          exact ⟨q, by simp [hq], a, b⟩
    · simp only [if_neg hp, List.nil_append]
      exact ⟨i1, i2, i3⟩
  | _ :: _, _ :: _, [], _, _, _, hn, _, _ => by simp at hn
  | _ :: _, _ :: _, _ :: _, [], _, _, _, hv, _ => by simp at hv

theorem runsL_map {α : Type} (f : α → Hd) (g : α → Cr) (x : Vl) (env : List Nv) : ∀ l : List α, runsL x (l.map f) (l.map g) env = match l.find? (fun q => hitA (f q) x) with
    | some q => runs (g q) (env ++ (f q).2.2.2.zip x.k)
    | none => (-1, env)
  | [] => by rw [List.map_nil, List.map_nil, runsL]; rfl; all_goals (intros; simp_all)
  | q :: l => by
    rw [List.map_cons, List.map_cons, runsL, List.find?_cons]
    cases h : hitA (f q) x with
    | true => rw [if_pos rfl]
    | false => rw [if_neg (by simp)]; exact runsL_map f g x env l
theorem runsL_two (h1 : List Hd) (k1 : List Cr) (h : Hd) (k : Cr) (x : Vl) (env : List Nv) (hl : h1.length = k1.length) (hn : ∀ q ∈ h1, hitA q x = false) (hh : hitA h x = true) : runsL x (h1 ++ [h]) (k1 ++ [k]) env = runs k (env ++ h.2.2.2.zip x.k) := by
  rw [runsL_drop x env h1.length _ _ (by simp [hl]) (fun j q hj hq => by
    rw [List.getElem?_append_left hj] at hq
    exact hn q (List.mem_of_getElem? hq))]
  rw [List.drop_left, hl, List.drop_left, runsL, if_pos hh]
theorem runsL_first {α : Type} (f : α → Hd) (g : α → Cr) (x : Vl) (env : List Nv) (h : Hd) (k : Cr) {l : List α} {q : α} (hq : l.find? (fun q => hitA (f q) x) = some q) : runsL x (l.map f ++ [h]) (l.map g ++ [k]) env = runs (g q) (env ++ (f q).2.2.2.zip x.k) := by
  induction l with
  | nil => simp at hq
  | cons p l ih =>
    rw [List.find?_cons] at hq
    rw [List.map_cons, List.map_cons, List.cons_append, List.cons_append, runsL]
    cases hp : hitA (f p) x with
    | true => rw [hp] at hq; simp at hq; subst hq; rw [if_pos rfl]
    | false => rw [hp] at hq; rw [if_neg (by simp)]; exact ih hq

/-- What the compiled rows come to. -/
def ComesTo (b : Nat → Int) (v0 : Vl) (l : List Rw) (vs : List Vl) (res : Int × List Nv) : Prop :=
  match l.find? (fun r => takesL r.ps vs) with
  | none => res.1 = -1
  | some r => ∃ env' bs, res = (b r.body, letE env' bs) ∧ (∀ q ∈ env', Tr v0 q.1 q.2) ∧ (∀ q ∈ bs, q.2.2 ∈ env'.map (·.1)) ∧ (bs.map (·.1)).Perm (r.lost.map (·.1) ++ namesL r.ps) ∧ (∀ q ∈ r.lost, q ∈ bs) ∧ ∀ y ∈ boundL r.ps vs, ∃ q ∈ bs, q.1 = y.1 ∧ Tr v0 q.2.2 y.2

theorem comes_part {b : Nat → Int} {v0 : Vl} {K : Kn} {a t : Nat} {cs fs : List Nat} {y : ByteArray} {l : List Rw} {v : Vl} {vs : List Vl} {res : Int × List Nv} (ht : ∀ r ∈ l, TyPs cs r.ps) (ha : cs[a]? = some t) (hvl : vs.length = cs.length) (hv : vs[a]? = some v) (hK : Fit t K fs) (hI : K.IsA a l v) (hkl : (K.kids v).length = fs.length) (hT : Tr v0 y v)
    (h : ComesTo b v0 (parts K a y l) (vs.take a ++ K.kids v ++ vs.drop (a + 1)) res) : ComesTo b v0 l vs res := by
  unfold ComesTo at h ⊢
  unfold parts at h
  rw [find_parts (f := fun r => takesL r.ps vs) (fun r hr => part_takesA hr (ht r hr) ha hvl hv hK hI)] at h
  cases hf : l.find? (fun r => takesL r.ps vs) with
  | none => rw [hf] at h; exact h
  | some r =>
    have hr := List.mem_of_find?_eq_some hf
    have hp := List.find?_some hf
    rw [part_takesA (y := y) hr (ht r hr) ha hvl hv hK hI] at hp
    rw [hf] at h
    simp only [Option.bind_some] at h
    cases hx : part K a y r with
    | none => rw [hx] at hp; cases hp
    | some x =>
      rw [hx] at h
      obtain ⟨env', bs, h1, h2, h3, h4, h5, h6⟩ := h
      obtain ⟨n1, n2, n3, n4⟩ := part_names (fs := fs) (ht r hr) ha hx
      refine ⟨env', bs, by rw [h1, n4], h2, h3, h4.trans n1, fun q hq => h5 q (n2 q hq), fun z hz => ?_⟩
      rcases part_bound (ht r hr) ha hK hkl hvl hv hx z hz with hz | ⟨q, hq, e1, e2, e3⟩
      · exact h6 z hz
      · exact ⟨q, h5 q hq, e1, by rw [e2, e3]; exact hT⟩

theorem putN_get {ns own : List ByteArray} {vs ks : List Vl} {a : Nat} {P : ByteArray → Vl → Prop} (hn : ns.length = vs.length) (ho : own.length = ks.length) (ha : a < ns.length) (h : ∀ (i : Nat) s x, ns[i]? = some s → vs[i]? = some x → P s x) (hk : ∀ (i : Nat) s x, own[i]? = some s → ks[i]? = some x → P s x) :
    ∀ (i : Nat) s x, (putN ns a own)[i]? = some s → (vs.take a ++ ks ++ vs.drop (a + 1))[i]? = some x → P s x := fun i s x hs hx => by
  unfold putN at hs
  rw [List.append_assoc] at hx
  have l1 : (ns.take a).length = a := by rw [List.length_take]; omega
  have l2 : (vs.take a).length = a := by rw [List.length_take]; omega
  by_cases h1 : i < a
  · rw [List.getElem?_append_left (by omega), List.getElem?_take_of_lt h1] at hs
    rw [List.getElem?_append_left (by omega), List.getElem?_take_of_lt h1] at hx
    exact h i s x hs hx
  · rw [List.getElem?_append_right (by omega), l1] at hs
    rw [List.getElem?_append_right (by omega), l2] at hx
    by_cases h2 : i - a < own.length
    · rw [List.getElem?_append_left h2] at hs
      rw [List.getElem?_append_left (by omega)] at hx
      exact hk _ s x hs hx
    · rw [List.getElem?_append_right (by omega), List.getElem?_drop] at hs
      rw [List.getElem?_append_right (by omega), List.getElem?_drop, ← ho] at hx
      exact h _ s x hs hx

theorem runs_made (b : Nat → Int) (v0 : Vl) : ∀ (n : Nat) (l : List Rw) (cs : List Nat) (ns : List ByteArray) (vs : List Vl) (env : List Nv), RowsTy cs n l → TyVs cs vs → ns.length = cs.length →
    (∀ (i : Nat) s x, ns[i]? = some s → vs[i]? = some x → Tr v0 s x ∧ s ∈ env.map (·.1)) → (∀ q ∈ env, Tr v0 q.1 q.2) → (∀ r ∈ l, ∀ q ∈ r.lost, q.2.2 ∈ env.map (·.1)) → ComesTo b v0 l vs (runs (made b n l ns) env) := by
  intro n
  induction n with
  | zero => intro l cs ns vs env h; have := h.fuel; omega
  | succ n ih =>
    intro l cs ns vs env h hv hn hnv hE hL
    have hcap := h.cap
    have hfu := h.fuel
    have hvl := hv.len
    cases l with
    | nil => rw [made, runs]; exact rfl
    | cons r l =>
      have hrow := h.row r (by simp)
      have hrt := hrow.ty
      have hpl := hrt.len
      obtain ⟨i, hi⟩ := shutAt_ex r.ps
      rcases hi with ⟨k, rfl, hk, h1, h2⟩ | ⟨rfl, ho⟩
      · obtain ⟨t, ha⟩ : ∃ t, cs[k]? = some t := ⟨_, List.getElem?_eq_getElem (by omega)⟩
        obtain ⟨p, hp, hty⟩ := hrt.get ha
        have hpk : p = r.ps[k] := by rw [List.getElem?_eq_getElem hk] at hp; injection hp with hp; exact hp.symm
        have hop : p.opn = false := by rw [hpk]; exact h1
        obtain ⟨s, hs⟩ : ∃ s, ns[k]? = some s := ⟨_, List.getElem?_eq_getElem (by omega)⟩
        obtain ⟨v, hvk⟩ : ∃ v, vs[k]? = some v := ⟨_, List.getElem?_eq_getElem (by omega)⟩
        have hvt := hv.at k v t hvk ha
        obtain ⟨hT, hsk⟩ := hnv k s v hs hvk
        have hlk : lookE env s = v := look_true hE hT hsk
        have hix := shutIx_some hk h1 h2
        -- what is behind a column that is looked at
        have go : ∀ (K : Kn) (fs : List Nat) (own : List ByteArray) (env' : List Nv), Fit t K fs → K.IsA k (r :: l) v → (K.kids v).length = fs.length → own.length = fs.length → RowsTy (cs.take k ++ fs ++ cs.drop (k + 1)) n (parts K k s (r :: l)) → TyVs fs (K.kids v) →
            (∀ q ∈ env', Tr v0 q.1 q.2) → (∀ x ∈ env.map (·.1), x ∈ env'.map (·.1)) → (∀ (i : Nat) s x, own[i]? = some s → (K.kids v)[i]? = some x → Tr v0 s x ∧ s ∈ env'.map (·.1)) → ComesTo b v0 (r :: l) vs (runs (made b n (parts K k s (r :: l)) (putN ns k own)) env') := fun K fs own env' hK hI hkl hol hR hTy hE' hsub hown => by
          refine comes_part h.tys ha hvl hvk hK hI hkl hT ?_
          refine ih _ _ _ _ _ hR ?_ ?_ ?_ hE' ?_
          · have hs1 : TyVs (cs.take k) (vs.take k) := TyVs.of (by simp; omega) (fun i x u hx hu => by
              have hi : i < k := by have := (List.getElem?_eq_some_iff.1 hx).1; simp at this; omega
              rw [List.getElem?_take_of_lt hi] at hx hu
              exact hv.at i x u hx hu)
            have hs2 : TyVs (cs.drop (k + 1)) (vs.drop (k + 1)) := TyVs.of (by simp; omega) (fun i x u hx hu => by
              rw [List.getElem?_drop] at hx hu
              exact hv.at _ x u hx hu)
            exact (hs1.app hTy).app hs2
          · rw [putN_len _ _ _ (by omega)]; simp; omega
          · exact putN_get (ns := ns) (own := own) (vs := vs) (ks := K.kids v) (a := k) (P := fun s x => Tr v0 s x ∧ s ∈ env'.map (·.1)) (by omega) (by omega) (by omega) (fun i s x hs hx => ⟨(hnv i s x hs hx).1, hsub _ (hnv i s x hs hx).2⟩) hown
          · intro x hx q hq
            obtain ⟨r', hr', hp'⟩ := List.mem_filterMap.1 hx
            obtain ⟨_, _, n3, _⟩ := part_names (fs := fs) (h.tys r' hr') ha hp'
            rcases n3 q hq with hq | hq
            · exact hsub _ (hL r' hr' q hq)
            · rw [hq]; exact hsub _ hsk
        have h43 : p.f = 4 ∨ p.f = 3 := by
          have := hty.form.1
          simp only [Pt.opn, Bool.or_eq_false_iff, decide_eq_false_iff_not] at hop
          omega
        by_cases h4 : p.f = 4
        · rcases colCons_ty ha h.tys with ⟨_, hno⟩ | ⟨hks, ht0, ht5, hh⟩
          · exact absurd h4 (hno r (by simp) p hp)
          · have hmd : made b (n + 1) (r :: l) ns = .cas s ((consT t).map fun q => (1, 0, q.1, kidsN s q.2.length)) ((consT t).map fun q => made b n (parts (.con q.1 q.2.length) k s (r :: l)) (putN ns k (kidsN s q.2.length))) := by
              rw [made, hix]; simp only [hp, hs, if_pos h4, hks]
            rw [hmd, runs, hlk, runsL_map (fun q : ByteArray × List Tp => ((1, 0, q.1, kidsN s q.2.length) : Hd))]
            obtain ⟨gs, k1, k2, k3⟩ := tyV_con hvt ht0
            obtain ⟨q, hq, hq1, hq2⟩ := consT_of k2
            have hql : hitA (1, 0, q.1, kidsN s q.2.length) v = true := by simp [hitA, k1, hq1, kidsN_len, hq2, k3.len]
            cases hf : (consT t).find? fun q => hitA (1, 0, q.1, kidsN s q.2.length) v with
            | none => exact absurd hql (by simpa using List.find?_eq_none.1 hf q hq)
            | some z =>
              simp only
              have hzm := List.mem_of_find?_eq_some hf
              have hzh := List.find?_some hf
              obtain ⟨fs, hfs, hfl⟩ := consT_at hzm
              have hzz : v.f = 1 ∧ v.s = z.1 ∧ v.k.length = z.2.length := by
                simp only [hitA, Bool.or_eq_true, Bool.and_eq_true, decide_eq_true_eq, kidsN_len] at hzh
                rcases hzh with h | ⟨⟨h, _⟩, _⟩ | ⟨⟨⟨_, h2⟩, h3⟩, h4⟩
                · cases h
                · cases h
                · exact ⟨h2, h3, h4⟩
              obtain ⟨z1, z2, z3⟩ := hzz
              rw [z2] at k2
              have hgs := wCons_uniq hfs k2
              subst hgs
              have hR := h.conA (y := s) ha hfs ⟨r, by simp, p, hp, h4⟩
              rw [← hfl]
              have hkk : ∀ (i : Nat) s' x, (kidsN s fs.length)[i]? = some s' → v.k[i]? = some x → Tr v0 s' x ∧ (s', x) ∈ (kidsN s fs.length).zip v.k := fun i s' x hs' hx => by
                have hil := (List.getElem?_eq_some_iff.1 hs').1
                rw [kidsN_len] at hil
                have he : s' = kidN s i := by
                  unfold kidsN at hs'
                  rw [List.getElem?_map, List.getElem?_range hil] at hs'
                  simpa using hs'.symm
                have h3 : fs.length ≤ 2 := (wCons_fs hfs).1
                refine ⟨by rw [he]; exact hT.kid (by omega) hx, ?_⟩
                refine List.mem_of_getElem? (i := i) ?_
                rw [List.getElem?_zip_eq_some]
                exact ⟨hs', hx⟩
              refine go (.con z.1 fs.length) fs (kidsN s fs.length) _ (.con t _ fs hfs) ⟨z1, z2, by omega⟩ k3.len (kidsN_len _ _) hR k3 (fun q hq => ?_) (fun x hx => by rw [List.map_append]; exact List.mem_append_left _ hx) (fun i s' x hs' hx => ?_)
              · rcases List.mem_append.1 hq with hq | hq
                · exact hE q hq
                · obtain ⟨i, hi⟩ := List.getElem?_of_mem hq
                  rw [List.getElem?_zip_eq_some] at hi
                  exact (hkk i q.1 q.2 hi.1 hi.2).1
              · obtain ⟨a1, a2⟩ := hkk i s' x hs' hx
                exact ⟨a1, List.mem_map.2 ⟨(s', x), List.mem_append_right _ a2, rfl⟩⟩
        · have h3 : p.f = 3 := by omega
          obtain ⟨ht, _, _⟩ := ty_int hty h3
          subst ht
          have hmd : made b (n + 1) (r :: l) ns = .cas s ((intsOf k (r :: l)).map (fun x => (2, x, .empty, [])) ++ [(3, 0, .empty, [])]) ((intsOf k (r :: l)).map (fun x => made b n (parts (.int x) k s (r :: l)) (putN ns k [])) ++ [made b n (parts .none k s (r :: l)) (putN ns k [])]) := by
            rw [made, hix]; simp only [hp, hs, if_neg h4]
          rw [hmd, runs, hlk]
          have hno4 : ∀ q ∈ r :: l, ∀ p', q.ps[k]? = some p' → p'.f ≠ 4 := fun q hq p' hp' h4' => by
            obtain ⟨p2, hp2, hty2⟩ := (h.tys q hq).get ha
            rw [hp'] at hp2; injection hp2 with e; subst e
            obtain ⟨fs, hfs, _⟩ := ty_con hty2 h4'
            have := (wCons_fs hfs).2.2.1; omega
          cases hf : (intsOf k (r :: l)).find? fun x => hitA (2, x, .empty, []) v with
          | some x =>
            have hxh := List.find?_some hf
            have hx2 : v.f = 2 ∧ v.n = x := by
              simp only [hitA, Bool.or_eq_true, Bool.and_eq_true, decide_eq_true_eq] at hxh
              rcases hxh with h | ⟨⟨_, h1⟩, h2⟩ | ⟨⟨⟨h1, _⟩, _⟩, _⟩
              · cases h
              · exact ⟨h1, h2⟩
              · cases h1
            rw [runsL_first (fun x : Int => ((2, x, .empty, []) : Hd)) _ v env _ _ hf]
            simp only [List.zip_nil_left, List.append_nil]
            exact go (.int x) [] [] env (.int x) hx2 rfl rfl (h.lessA ha (.int x)) trivial hE (fun _ h => h) (fun i s' x' hs' => by simp at hs')
          | none =>
            have hnh := List.find?_eq_none.1 hf
            rw [runsL_two _ _ _ _ _ _ (by simp) (fun q hq => by
              obtain ⟨x, hx, rfl⟩ := List.mem_map.1 hq
              simpa using hnh x hx) (by simp [hitA])]
            simp only [List.zip_nil_left, List.append_nil]
            have his : Kn.none.IsA k (r :: l) v := fun q hq p' hp' ho' => by
              rw [takes_shut ho']
              have h4' := hno4 q hq p' hp'
              by_cases h3' : p'.f = 3
              · have hm := (ints_has (a := k) (l := r :: l) (out := [])).2 q hq p' hp' h3'
                change p'.n ∈ intsOf k (r :: l) at hm
                have := hnh _ hm
                simp only [hitA] at this
                simp only [h3', h4']
                simp at this ⊢
                exact this
              · simp [h3', h4']
            exact go .none [] [] env (.none 0) his rfl rfl (h.lessA ha (.none 0)) trivial hE (fun _ h => h) (fun i s' x' hs' => by simp at hs')
      · have hmd : made b (n + 1) (r :: l) ns = .leaf (r.lost ++ ownB r.ps ns) (b r.body) := by rw [made, shutIx_none ho]
        rw [hmd, runs]
        unfold ComesTo
        rw [List.find?_cons, takesL_opn ho (by omega)]
        obtain ⟨i1, i2, i3⟩ := own_facts hrt ho hn hvl hnv
        refine ⟨env, _, rfl, hE, fun q hq => ?_, by rw [List.map_append, i1], fun q hq => by simp [hq], fun y hy => ?_⟩
        · rcases List.mem_append.1 hq with hq | hq
          · exact hL r (by simp) q hq
          · exact i2 q hq
        · obtain ⟨q, hq, e1, e2⟩ := i3 y hy
          exact ⟨q, by simp [hq], e1, e2⟩
end Go.Proofs.YtefdahofpjmnfaaDoor

namespace Go.Proofs.YtefdahofpjmnfaaDoor
open Go Fp
set_option maxRecDepth 10000
set_option maxHeartbeats 16000000
set_option linter.unusedVariables false
set_option linter.unusedSimpArgs false

theorem runsL_len (x : Vl) (B : Nat) : ∀ (hs : List Hd) (ks : List Cr) (env : List Nv), env.length ≤ B → (∀ h ∈ hs, h.2.2.2.length ≤ 2) → (∀ c ∈ ks, ∀ env' : List Nv, env'.length ≤ env.length + 2 → (runs c env').2.length ≤ B) → (runsL x hs ks env).2.length ≤ B
  | [], _, env, h, _, _ => by rw [runsL]; exact h; all_goals (intros; simp_all)
  | _ :: _, [], env, h, _, _ => by rw [runsL]; exact h; all_goals (intros; simp_all)
  | h :: hs, c :: ks, env, he, h2, hk => by
    rw [runsL]
    split
    · refine hk c (by simp) _ ?_
      have := h2 h (by simp)
      rw [List.length_append, List.length_zip]; omega
    · exact runsL_len x B hs ks env he (fun q hq => h2 q (by simp [hq])) (fun c hc => hk c (by simp [hc]))

theorem Runs_ok (to : Tp) (b : Nat → Int) : ∀ (n : Nat) (l : List Rw) (cs : List Nat) (ns : List ByteArray) (env : List Nv), RowsTy cs n l → ns.length = cs.length → env.length + 2 * n ≤ 19000 →
    ACall Tryd.prog n_fugueref20_Runs [eCr to (made b n l ns), .sl (eOfs env)] (runT (runs (made b n l ns) env)) ∧ (runs (made b n l ns) env).2.length ≤ env.length + 2 * n + 20000 := by
  intro n
  induction n with
  | zero => intro l cs ns env h; have := h.fuel; omega
  | succ n ih =>
    intro l cs ns env h hn he
    have hcap := h.cap
    have hfu := h.fuel
    cases l with
    | nil => rw [made]; exact ⟨runs_fail to env, by rw [runs]; simp only; omega⟩
    | cons r l =>
      have hrow := h.row r (by simp)
      have hrt := hrow.ty
      have hpl := hrt.len
      have hlost := hrow.lost
      obtain ⟨i, hi⟩ := shutAt_ex r.ps
      rcases hi with ⟨k, rfl, hk, h1, h2⟩ | ⟨rfl, ho⟩
      · obtain ⟨t, ha⟩ : ∃ t, cs[k]? = some t := ⟨_, List.getElem?_eq_getElem (by omega)⟩
        obtain ⟨p, hp, hty⟩ := hrt.get ha
        have hpk : p = r.ps[k] := by rw [List.getElem?_eq_getElem hk] at hp; injection hp with hp; exact hp.symm
        have hop : p.opn = false := by rw [hpk]; exact h1
        obtain ⟨v, hv⟩ : ∃ v, ns[k]? = some v := ⟨_, List.getElem?_eq_getElem (by omega)⟩
        have hix := shutIx_some hk h1 h2
        have go : ∀ (hs : List Hd) (ks : List Cr), hs.length = ks.length → hs.length < 20000 → (∀ h ∈ hs, h.2.2.2.length ≤ 2 ∧ (h.1 = 1 ∨ h.2.2.2 = [])) →
            (∀ c ∈ ks, ∀ env' : List Nv, env'.length + 2 * n ≤ 19000 → ACall Tryd.prog n_fugueref20_Runs [eCr to c, .sl (eOfs env')] (runT (runs c env')) ∧ (runs c env').2.length ≤ env'.length + 2 * n + 20000) →
            ACall Tryd.prog n_fugueref20_Runs [eCr to (.cas v hs ks), .sl (eOfs env)] (runT (runs (.cas v hs ks) env)) ∧ (runs (.cas v hs ks) env).2.length ≤ env.length + 2 * (n + 1) + 20000 := fun hs ks e1 e2 e3 e4 => by
          refine ⟨runs_cas to v hs ks env e1 e2 e3 (by omega) (fun c hc env' he' => (e4 c hc env' (by omega)).1), ?_⟩
          rw [runs]
          exact runsL_len _ _ hs ks env (by omega) (fun h hh => (e3 h hh).1) (fun c hc env' he' => Nat.le_trans (e4 c hc env' (by omega)).2 (by omega))
        have h43 : p.f = 4 ∨ p.f = 3 := by
          have := hty.form.1
          simp only [Pt.opn, Bool.or_eq_false_iff, decide_eq_false_iff_not] at hop
          omega
        have less : ∀ K, Fit t K [] → ∀ env' : List Nv, env'.length + 2 * n ≤ 19000 → _ := fun K hK env' he' =>
          ih _ _ (putN ns k []) env' (h.lessA (y := v) ha hK) (by rw [putN_len _ _ _ (by omega)]; simp; omega) he'
        by_cases h4 : p.f = 4
        · rcases colCons_ty ha h.tys with ⟨_, hno⟩ | ⟨hks, ht0, ht5, hh⟩
          · exact absurd h4 (hno r (by simp) p hp)
          · have hmd : made b (n + 1) (r :: l) ns = .cas v ((consT t).map fun q => (1, 0, q.1, kidsN v q.2.length)) ((consT t).map fun q => made b n (parts (.con q.1 q.2.length) k v (r :: l)) (putN ns k (kidsN v q.2.length))) := by
              rw [made, hix]; simp only [hp, hv, if_pos h4, hks]
            rw [hmd]
            have hcl := consT_len t
            refine go _ _ (by simp) (by simp; omega) (fun h hh => ?_) (fun c hc env' he' => ?_)
            · obtain ⟨q, hq, rfl⟩ := List.mem_map.1 hh
              obtain ⟨fs, hfs, hfl⟩ := consT_at hq
              have : fs.length ≤ 2 := (wCons_fs hfs).1
              exact ⟨by simp only [kidsN_len]; omega, .inl rfl⟩
            · obtain ⟨q, hq, rfl⟩ := List.mem_map.1 hc
              obtain ⟨fs, hfs, hfl⟩ := consT_at hq
              have hT := h.conA (y := v) ha hfs ⟨r, by simp, p, hp, h4⟩
              rw [hfl] at hT
              exact ih _ _ _ env' hT (by rw [putN_len _ _ _ (by omega), kidsN_len]; simp; omega) he'
        · have h3 : p.f = 3 := by omega
          obtain ⟨ht, _, _⟩ := ty_int hty h3
          subst ht
          have hmd : made b (n + 1) (r :: l) ns = .cas v ((intsOf k (r :: l)).map (fun x => (2, x, .empty, [])) ++ [(3, 0, .empty, [])]) ((intsOf k (r :: l)).map (fun x => made b n (parts (.int x) k v (r :: l)) (putN ns k [])) ++ [made b n (parts .none k v (r :: l)) (putN ns k [])]) := by
            rw [made, hix]; simp only [hp, hv, if_neg h4]
          have hil : (intsOf k (r :: l)).length < 10000 := by have := ints_le k (r :: l) []; have := h.len; unfold intsOf; simp at *; omega
          rw [hmd]
          refine go _ _ (by simp) (by simp; omega) (fun h hh => ?_) (fun c hc env' he' => ?_)
          · rcases List.mem_append.1 hh with hh | hh
            · obtain ⟨x, _, rfl⟩ := List.mem_map.1 hh
              exact ⟨by simp, .inr rfl⟩
            · simp at hh; subst hh; exact ⟨by simp, .inr rfl⟩
          · rcases List.mem_append.1 hc with hc | hc
            · obtain ⟨x, _, rfl⟩ := List.mem_map.1 hc
              exact less _ (.int x) env' he'
            · simp at hc; subst hc; exact less _ (.none 0) env' he'
      · have hmd : made b (n + 1) (r :: l) ns = .leaf (r.lost ++ ownB r.ps ns) (b r.body) := by rw [made, shutIx_none ho]
        rw [hmd]
        have hbl : (r.lost ++ ownB r.ps ns).length < 20000 := by have := ownB_len r.ps ns; rw [List.length_append]; omega
        generalize r.lost ++ ownB r.ps ns = bs at hbl
        refine ⟨?_, by rw [runs]; simp only; rw [letE_len]; omega⟩
        cases bs with
        | nil => rw [runs]; exact runs_int to (b r.body) env
        | cons q bs => exact runs_let to q bs (b r.body) env hbl (by omega)

theorem bound_len : ∀ (n : Nat) (p : Pt) (v : Vl), p.sz ≤ n → (bound p v).length ≤ p.sz := by
  intro n
  induction n with
  | zero => intro p v h; have := kids_sz p; omega
  | succ n ih =>
    intro p v h
    rw [bound_eq]
    have hL : ∀ (ps : List Pt) (vs : List Vl), (∀ q ∈ ps, q.sz ≤ n) → (boundL ps vs).length ≤ szL ps := fun ps => by
      induction ps with
      | nil => intro vs _; rw [boundL_nil]; simp
      | cons q ps ih2 =>
        intro vs hq
        cases vs with
        | nil => rw [boundL]; simp; intros; simp_all
        | cons w vs =>
          rw [boundL_cons, List.length_append, szL]
          have := ih q w (hq q (by simp))
          have := ih2 vs (fun q hq' => hq q (by simp [hq']))
          omega
    have hz : szL p.k + 1 ≤ p.sz := by cases p; simp only [Pt.k, Pt.sz]; omega
    split
    · simp; omega
    · have := hL p.k v.k (fun q hq => by have := sz_kid hq; omega)
      omega
theorem boundL_len (n : Nat) (ps : List Pt) (vs : List Vl) : (boundL ps vs).length ≤ szL ps := by
  induction ps generalizing vs with
  | nil => rw [boundL_nil]; simp
  | cons q ps ih2 =>
    cases vs with
    | nil => rw [boundL]; simp; intros; simp_all
    | cons w vs =>
      rw [boundL_cons, List.length_append, szL]
      have := bound_len q.sz q w (Nat.le_refl _)
      have := ih2 vs
      omega
theorem boundL_snoc {ps : List Pt} {vs : List Vl} {k : Nat} (h1 : k < ps.length) (h2 : k < vs.length) : boundL (ps.take (k + 1)) (vs.take (k + 1)) = boundL (ps.take k) (vs.take k) ++ bound ps[k] vs[k] := by
  rw [List.take_succ_eq_append_getElem h1, List.take_succ_eq_append_getElem h2, boundL_app (by rw [List.length_take, List.length_take]; omega), boundL_cons, boundL_nil, List.append_nil]
theorem boundL_short : ∀ (ps : List Pt) (vs : List Vl) (k : Nat), (k = ps.length ∨ k = vs.length) → boundL (ps.take k) (vs.take k) = boundL ps vs
  | [], vs, k, _ => by rw [List.take_nil, boundL_nil, boundL_nil]
  | p :: ps, [], k, _ => by rw [List.take_nil, boundL, boundL]; all_goals (intros; simp_all)
  | p :: ps, v :: vs, 0, h => by simp at h
  | p :: ps, v :: vs, k + 1, h => by rw [List.take_succ_cons, List.take_succ_cons, boundL_cons, boundL_cons, boundL_short ps vs k (by simpa using h)]

theorem Bound_ok : ∀ (n : Nat) (p : Pt) (v : Vl), p.sz ≤ n → n < 10000 → ACall Tryd.prog n_fugueref20_Bound [ePt p, eVl v] (.sl (eOfs (bound p v))) := by
  intro n
  induction n with
  | zero => intro p v h; have := kids_sz p; omega
  | succ n ih =>
    intro p v h hn
    have hks := kids_sz p
    have hz : szL p.k + 1 ≤ p.sz := by cases p; simp only [Pt.k, Pt.sz]; omega
    have hlp : p.eKids.length = p.k.length := by rw [p.eKids_eq, lenP]
    have hlv : v.eKids.length = v.k.length := by rw [v.eKids_eq, lenV]
    rw [bound_eq]
    refine acall_of_wcx ttok mixed Tryd.func19 rfl (by rfl) (Nat.le_of_ble_eq_true rfl) (by kernel_rfl) ?_
    by_cases h2 : p.f = 2
    · refine ⟨fun hbs => ?_, fun hbs => ?_⟩ <;> first | (exfalso; revert hbs; (simp [h2]); done) | skip
      rw [if_pos h2]
      exact rfl
    · refine ⟨fun hbs => ?_, fun hbs => ?_⟩ <;> first | (exfalso; revert hbs; (simp [h2]); done) | skip
      rw [if_neg h2]
      refine ⟨{k : Nat // k ≤ p.k.length ∧ k ≤ v.k.length}, fun k => { vs := [(2, .box 0 (ePt p)), (3, .box 0 (eVl v)), (5, .v (.sl (eOfs (boundL (p.k.take k.1) (v.k.take k.1))))), (6, sv (k.1 : Nat))], ow := [(5, 0, 6)] },
        fun k => p.k.length - k.1, ⟨0, Nat.zero_le _, Nat.zero_le _⟩, ⟨⟨rfl, rfl, ?_, rfl, trivial⟩, ⟨trivial, trivial⟩, rfl⟩, ?_⟩
      · show SV.v (AV.sl []) = SV.v (AV.sl (eOfs (boundL [] [])))
        rw [boundL_nil]; rfl
      rintro ⟨k, hk1, hk2⟩
      have fin : (k = p.k.length ∨ k = v.k.length) → boundL (p.k.take k) (v.k.take k) = boundL p.k v.k := boundL_short p.k v.k k
      refine ⟨fun h3 => ?_, fun h3 => ?_⟩
      · have h3 : k < p.k.length := by have h3 := of_decide_eq_true h3; rw [hlp] at h3; simp only at h3; omega
        refine ⟨fun h4 => ?_, fun h4 => ?_⟩
        · have h4 : k < v.k.length := by have h4 := of_decide_eq_true h4; rw [hlv] at h4; simp only at h4; omega
          have hc := ih p.k[k] v.k[k] (by have := sz_kid (List.getElem_mem h3); omega) (by omega)
          have hg1 : p.eKids[k]? = some (ePt p.k[k]) := by rw [p.eKids_eq]; exact getP h3
          have hg2 : v.eKids[k]? = some (eVl v.k[k]) := by rw [v.eKids_eq]; exact getV h4
          have hb1 := boundL_len 0 (p.k.take k) (v.k.take k)
          have hb2 := bound_len _ p.k[k] v.k[k] (Nat.le_refl _)
          have hb3 := szL_take p.k k
          have hb4 := sz_kid (List.getElem_mem h3)
          have hsn := boundL_snoc h3 h4
          refine ⟨_, by omega, hg1, rfl, ?_⟩
          refine ⟨_, by omega, hg2, rfl, ?_⟩
          refine .inl ⟨_, hc, ?_⟩
          refine ⟨by rw [lenOf, lenOf]; simp only; omega, uniOf _, uniOf _, ?_⟩
          refine ⟨by kernel_rfl, ?_⟩
          refine ⟨⟨k + 1, h3, h4⟩, by simp; omega, ⟨rfl, rfl, ?_, svc (wrap_succ (k := k) (by omega)), trivial⟩, ⟨rfl, trivial⟩, rfl⟩
          show SV.v (AV.sl (eOfs (boundL (p.k.take k) (v.k.take k)) ++ eOfs (bound p.k[k] v.k[k]))) = SV.v (AV.sl (eOfs (boundL (p.k.take (k + 1)) (v.k.take (k + 1)))))
          rw [hsn]; simp [eOfs]
        · have h4 : k = v.k.length := by have h4 := of_decide_eq_false h4; rw [hlv] at h4; simp only at h4; omega
          simp only [fin (.inr h4)]
          exact rfl
      · have h3 : k = p.k.length := by have h3 := of_decide_eq_false h3; rw [hlp] at h3; simp only at h3; omega
        simp only [fin (.inl h3)]
        exact rfl

theorem same_ok {t : Nat} {v : Vl} (h : TyV t v) : ACall Tryd.prog n_fugueref01_SameValue [eVl v, eVl v] (.sb true) := by
  have go : ∀ v : Vl, v.k.length < 1000 → (∀ x ∈ v.k, ACall Tryd.prog n_fugueref01_SameValue [eVl x, eVl x] (.sb true)) → ACall Tryd.prog n_fugueref01_SameValue [eVl v, eVl v] (.sb true) := fun v hl hx => by
    have hlv : v.eKids.length = v.k.length := by rw [v.eKids_eq, lenV]
    refine acall_of_wcx ttok mixed Tryd.func20 rfl (by rfl) (Nat.le_of_ble_eq_true rfl) (by kernel_rfl) ?_
    refine ⟨fun hbs => ?_, fun hbs => ?_⟩ <;> first | (exfalso; revert hbs; (simp); done) | skip
    refine ⟨fun hbs => ?_, fun hbs => ?_⟩ <;> first | (exfalso; revert hbs; (simp); done) | skip
    refine ⟨fun hbs => ?_, fun hbs => ?_⟩ <;> first | (exfalso; revert hbs; (simp); done) | skip
    refine ⟨fun hbs => ?_, fun hbs => ?_⟩ <;> first | (exfalso; revert hbs; (simp); done) | skip
    refine ⟨{k : Nat // k ≤ v.k.length}, fun k => { vs := [(2, .box 0 (eVl v)), (3, .box 0 (eVl v)), (5, sv (k.1 : Nat))] },
      fun k => v.k.length - k.1, ⟨0, Nat.zero_le _⟩, ⟨⟨rfl, rfl, rfl, trivial⟩, trivial, rfl⟩, ?_⟩
    rintro ⟨k, hk⟩
    refine ⟨fun h3 => ?_, fun h3 => ?_⟩
    · have h3 : k < v.k.length := by have h3 := of_decide_eq_true h3; rw [hlv] at h3; simp only at h3; omega
      have hc := hx v.k[k] (List.getElem_mem h3)
      have hg2 : v.eKids[k]? = some (eVl v.k[k]) := by rw [v.eKids_eq]; exact getV h3
      refine ⟨_, by omega, hg2, rfl, ?_⟩
      refine ⟨_, by omega, hg2, rfl, ?_⟩
      refine .inl ⟨_, hc, ?_⟩
      refine ⟨by kernel_rfl, ?_⟩
      refine ⟨fun hbs => ?_, fun hbs => ?_⟩ <;> first | (exfalso; revert hbs; (simp); done) | skip
      exact ⟨⟨k + 1, h3⟩, by simp; omega, ⟨rfl, rfl, svc (wrap_succ (k := k) (by omega)), trivial⟩, trivial, rfl⟩
    · exact rfl
  induction h with
  | int v hf hk => exact go v (by rw [hk]; simp) (fun x hx => by rw [hk] at hx; simp at hx)
  | con t v fs hf hs hl hk ih =>
    have := (wCons_fs hs).1
    refine go v (by simp only at this; omega) (fun x hx => ?_)
    obtain ⟨i, hi⟩ := List.getElem?_of_mem hx
    have hil := (List.getElem?_eq_some_iff.1 hi).1
    exact ih i x _ hi (List.getElem?_eq_getElem (by omega))
theorem Look_ok (env : List Nv) (s : ByteArray) (hl : env.length < 100000) : ACall Tryd.prog n_fugueref20_Look [.sl (eOfs env), .lit (.string s)] (eVl (lookE env s)) := by
  have h := look_ok env s hl
  refine acall_of_wcx ttok mixed Tryd.func21 rfl (by rfl) (Nat.le_of_ble_eq_true rfl) (by kernel_rfl) ?_
  refine .inl ⟨_, h, ?_⟩
  exact rfl
end Go.Proofs.YtefdahofpjmnfaaDoor

namespace Go.Proofs.YtefdahofpjmnfaaDoor
open Go Fp
set_option maxRecDepth 10000
set_option maxHeartbeats 16000000
set_option linter.unusedVariables false
set_option linter.unusedSimpArgs false

def dg (n : Nat) : ByteArray := ⟨#[UInt8.ofNat (48 + n % 10)]⟩
def vN (a : Nat) : ByteArray := ⟨#[118]⟩ ++ dg (a / 10) ++ dg a
theorem vN_size (a : Nat) : (vN a).size ≤ 4 := by unfold vN; rw [ByteArray.size_append, ByteArray.size_append]; show 1 + 1 + 1 ≤ 4; omega
theorem vN_bytes (a : Nat) : bytes (vN a) = [118, UInt8.ofNat (48 + a / 10 % 10), UInt8.ofNat (48 + a % 10)] := by unfold vN; rw [bytes_app, bytes_app]; rfl
theorem u8_inj {x y : Nat} (hx : x < 10) (hy : y < 10) (h : UInt8.ofNat (48 + x) = UInt8.ofNat (48 + y)) : x = y := by
  have := congrArg UInt8.toNat h
  simp only [UInt8.toNat_ofNat'] at this
  omega
theorem vN_inj {a b : Nat} (ha : a < 100) (hb : b < 100) (h : vN a = vN b) : a = b := by
  have h := congrArg bytes h
  rw [vN_bytes, vN_bytes] at h
  injection h with _ h
  injection h with h1 h
  injection h with h2 _
  have := u8_inj (Nat.mod_lt _ (by decide)) (Nat.mod_lt _ (by decide)) h1
  have := u8_inj (Nat.mod_lt _ (by decide)) (Nat.mod_lt _ (by decide)) h2
  omega
theorem wrap8' {n : Nat} (h : n < 256) : IntKind.u8.wrap (n : Int) = n := by
  simp [IntKind.wrap, IntKind.signed, IntKind.bits]; omega
theorem digitN_ok (n : Nat) : ACall Tryd.prog n_fugueref14_digit [.lit (.int .i64 (n : Nat))] (.lit (.string (dg n))) := by
  have e1 : ((n : Int).tmod 10) = ((n % 10 : Nat) : Int) := rfl
  have e2 : IntKind.i64.wrap (48 + (n : Int).tmod 10) = ((48 + n % 10 : Nat) : Int) := by rw [e1, show (48 : Int) + ((n % 10 : Nat) : Int) = ((48 + n % 10 : Nat) : Int) by omega]; exact wrap_nat (by omega)
  have e3 : IntKind.u8.wrap (IntKind.i64.wrap (48 + (n : Int).tmod 10)) = ((48 + n % 10 : Nat) : Int) := by rw [e2]; exact wrap8' (by omega)
  have hb : (IntKind.u8.wrap (IntKind.i64.wrap (48 + (n : Int).tmod 10))).toNat = 48 + n % 10 := by rw [e3]; rfl
  refine acall_of_wc ttok mixed Tryd.func61 rfl (by rfl) (Nat.le_of_ble_eq_true rfl) (by kernel_rfl) ?_
  refine ⟨by decide, ?_⟩
  show AV.lit (.string ⟨[UInt8.ofNat (IntKind.u8.wrap (IntKind.i64.wrap (48 + (n : Int).tmod 10))).toNat].toArray⟩) = _
  rw [hb]; rfl
theorem pat_varN {l : List Int} {a t d n : Nat} (ha : a < 4611686018427387904) (ht : t < 5) (hpick : ACall Tryd.prog n_fugueref14_pick [.sl (eIs l), .lit (.int .i64 (a : Nat))] (.lit (.int .i64 (n : Nat))))
    (h0 : ¬ (n % 5 = 0 ∨ d = 0 ∧ 0 < t)) (h1 : n % 5 = 1) :
    ACall Tryd.prog n_fugueref14_Pattern [.sl (eIs l), .lit (.int .i64 (a : Nat)), .lit (.int .i64 (t : Nat)), .lit (.int .i64 (d : Nat))] (.tup [ePt (.mk 2 0 (vN a) (wTy t) [] []), .lit (.int .i64 ((a + 1 : Nat) : Int))]) := by
  have hw := worldType_ok t ht
  have m5 : ((n : Int).tmod 5) = ((n % 5 : Nat) : Int) := rfl
  have hc1 := digitN_ok (a / 10)
  have hc2 := digitN_ok a
  have ew : IntKind.i64.wrap ((a : Int).tdiv 10) = ((a / 10 : Nat) : Int) := by rw [show ((a : Int).tdiv 10) = ((a / 10 : Nat) : Int) by simp]; exact wrap_nat (by omega)
  rw [← ew] at hc1
  rw [← wrap_succ (k := a) (by omega)]
  refine acall_of_wc ttok mixed Tryd.func24 rfl (by rfl) (Nat.le_of_ble_eq_true rfl) (by kernel_rfl) ?_
  refine .inl ⟨_, hpick, .inl ⟨_, hw, ?_⟩⟩
  refine ⟨by decide, ?_⟩
  refine ⟨fun h => ?_, fun h => by simp at h; omega⟩
  refine ⟨fun h => ?_, fun h => ?_⟩
  · refine ⟨fun h' => ?_, fun h' => ?_⟩
    · simp at h h'; omega
    · refine ⟨by decide, ⟨fun _ => ?_, fun h => by simp at h; omega⟩⟩
      refine ⟨by decide, .inl ⟨_, hc1, ?_⟩⟩
      refine ⟨by show 1 + 1 ≤ _; omega, .inl ⟨_, hc2, ?_⟩⟩
      refine ⟨by rw [ByteArray.size_append]; show 1 + 1 + 1 ≤ _; omega, ?_⟩
      exact rfl
  · refine ⟨by decide, ⟨fun _ => ?_, fun h => by simp at h; omega⟩⟩
    refine ⟨by decide, .inl ⟨_, hc1, ?_⟩⟩
    refine ⟨by show 1 + 1 ≤ _; omega, .inl ⟨_, hc2, ?_⟩⟩
    refine ⟨by rw [ByteArray.size_append]; show 1 + 1 + 1 ≤ _; omega, ?_⟩
    exact rfl

theorem pick14_okN {l : List Int} {k : Nat} (hr : ∀ x ∈ l, InR x) : ∃ r : Nat, r < 9223372036854775808 ∧ ACall Tryd.prog n_fugueref14_pick [.sl (eIs l), .lit (.int .i64 (k : Nat))] (.lit (.int .i64 (r : Nat))) ∧ (l.length ≤ k → r = 0) := by
  by_cases hk : l.length ≤ k
  · refine ⟨0, by decide, ?_, fun _ => rfl⟩
    refine acall_of_wc ttok mixed Tryd.func60 rfl (by rfl) (Nat.le_of_ble_eq_true rfl) (by kernel_rfl) ?_
    refine ⟨fun _ => rfl, fun h' => ?_⟩
    simp [eIs] at h'; omega
  · obtain ⟨r, h1, h2⟩ := pick14_ok (l := l) (k := k) hr
    exact ⟨r, h1, h2, fun h => absurd h hk⟩
/-- The names of a pattern are of places from here to there. -/
def NmOk (l : List Int) (a nx : Nat) (p : Pt) : Prop := ∃ ws : List Nat, names p = ws.map vN ∧ ws.Pairwise (· < ·) ∧ (∀ x ∈ ws, a ≤ x ∧ x < nx ∧ x < l.length) ∧ a ≤ nx
theorem nmOk_none {l : List Int} {a nx : Nat} {p : Pt} (h : names p = []) (hn : a ≤ nx) : NmOk l a nx p := ⟨[], by rw [h]; rfl, by simp, by simp, hn⟩
theorem stp_names {l : List Int} {P : Nat → Nat → Pt} {N : Nat → Nat → Nat} {c : Nat} (h : ∀ a t, a + c < 4611686018427387904 → t < 5 → N a t ≤ a + c ∧ NmOk l a (N a t) (P a t)) :
    ∀ (fs : List Nat) (a : Nat), (∀ u ∈ fs, u < 5) → a + fs.length * c < 4611686018427387904 → ∃ ws : List Nat, namesL (stp P N fs a).1 = ws.map vN ∧ ws.Pairwise (· < ·) ∧ (∀ x ∈ ws, a ≤ x ∧ x < (stp P N fs a).2 ∧ x < l.length) ∧ a ≤ (stp P N fs a).2
  | [], a, _, _ => ⟨[], by simp [stp, namesL], by simp, by simp, by simp [stp]⟩
  | v :: fs, a, h5, hb => by
    have e1 : (v :: fs).length * c = c + fs.length * c := by rw [List.length_cons, Nat.add_mul, Nat.one_mul, Nat.add_comm]
    rw [e1] at hb
    obtain ⟨h1, ws, n1, n2, n3, n4⟩ := h a v (by omega) (h5 v (by simp))
    obtain ⟨bs, k1, k2, k3, k4⟩ := stp_names h fs (N a v) (fun u hu => h5 u (by simp [hu])) (by omega)
    refine ⟨ws ++ bs, ?_, ?_, fun x hx => ?_, ?_⟩
    · simp only [stp]; rw [namesL, n1, k1, List.map_append]
    · rw [List.pairwise_append]
      exact ⟨n2, k2, fun x hx y hy => by have := n3 x hx; have := k3 y hy; omega⟩
    · simp only [stp]
      rcases List.mem_append.1 hx with hx | hx
      · have := n3 x hx; omega
      · have := k3 x hx; omega
    · simp only [stp]; omega
/-- The names of a pattern are different, and none is the name of a place in the value. -/
def NmP (p : Pt) : Prop := (names p).Nodup ∧ ∀ s ∈ names p, ∃ r, bytes s = 118 :: r
theorem nmP_of {l : List Int} {a nx : Nat} {p : Pt} (h : NmOk l a nx p) (hl : l.length ≤ 40) : NmP p := by
  obtain ⟨ws, h1, h2, h3, _⟩ := h
  refine ⟨?_, fun s hs => ?_⟩
  · rw [h1]
    unfold List.Nodup
    rw [List.pairwise_map]
    refine (List.Pairwise.and_mem.1 h2).imp fun ⟨hx, hy, hlt⟩ e => ?_
    have := vN_inj (by have := h3 _ hx; omega) (by have := h3 _ hy; omega) e
    omega
  · rw [h1] at hs
    obtain ⟨x, _, rfl⟩ := List.mem_map.1 hs
    exact ⟨_, vN_bytes x⟩
theorem stp_all {P : Nat → Nat → Pt} {N : Nat → Nat → Nat} {Q : Pt → Prop} {c : Nat} (h : ∀ a t, a + c < 4611686018427387904 → t < 5 → N a t ≤ a + c ∧ Q (P a t)) : ∀ (fs : List Nat) (a : Nat), (∀ u ∈ fs, u < 5) → a + fs.length * c < 4611686018427387904 → ∀ p ∈ (stp P N fs a).1, Q p
  | [], a, _, _, p, hp => by simp [stp] at hp
  | v :: fs, a, h5, hb, p, hp => by
    have e1 : (v :: fs).length * c = c + fs.length * c := by rw [List.length_cons, Nat.add_mul, Nat.one_mul, Nat.add_comm]
    rw [e1] at hb
    obtain ⟨h2, h3⟩ := h a v (by omega) (h5 v (by simp))
    rcases List.mem_cons.1 hp with rfl | hp
    · exact h3
    · exact stp_all h fs (N a v) (fun u hu => h5 u (by simp [hu])) (by omega) p hp

theorem pattern_okN {l : List Int} (hr : ∀ x ∈ l, InR x) : ∀ (d : Nat), d ≤ 3 → ∀ (a t : Nat), a + cap d < 4611686018427387904 → t < 5 →
    ∃ p nx, ACall Tryd.prog n_fugueref14_Pattern [.sl (eIs l), .lit (.int .i64 (a : Nat)), .lit (.int .i64 (t : Nat)), .lit (.int .i64 (d : Nat))] (.tup [ePt p, .lit (.int .i64 (nx : Nat))]) ∧ TyP t p ∧ nx ≤ a + cap d ∧ p.sz ≤ cap d ∧ NmOk l a nx p := by
  have c1 : ∀ d, 1 ≤ cap d := fun d => by cases d <;> simp [cap]
  have base : ∀ (d a t n : Nat), a + cap d < 4611686018427387904 → t < 5 → n < 9223372036854775808 → ACall Tryd.prog n_fugueref14_pick [.sl (eIs l), .lit (.int .i64 (a : Nat))] (.lit (.int .i64 (n : Nat))) → (l.length ≤ a → n = 0) →
      (n % 5 = 0 ∨ n % 5 = 1 ∨ t = 0 ∨ d = 0) → ∃ p nx, ACall Tryd.prog n_fugueref14_Pattern [.sl (eIs l), .lit (.int .i64 (a : Nat)), .lit (.int .i64 (t : Nat)), .lit (.int .i64 (d : Nat))] (.tup [ePt p, .lit (.int .i64 (nx : Nat))]) ∧ TyP t p ∧ nx ≤ a + cap d ∧ p.sz ≤ cap d ∧ NmOk l a nx p := by
    intro d a t n ha ht hn hp hz hc
    have := c1 d
    by_cases h0 : n % 5 = 0 ∨ d = 0 ∧ 0 < t
    · exact ⟨_, _, pat_wild (by omega) ht hp h0, .any _ _ (.inl rfl) rfl (fun h => by cases h), by omega, by simp [Pt.sz, szL]; omega, nmOk_none (by rw [names]; simp [namesL]) (by omega)⟩
    by_cases h1 : n % 5 = 1
    · have hq := pat_varN (by omega) ht hp h0 h1
      have hal : a < l.length := by rcases Nat.lt_or_ge a l.length with h | h; exact h; have := hz h; omega
      exact ⟨_, _, hq, .any _ _ (.inr rfl) rfl (fun _ => ⟨vN_size a, rfl⟩), by omega, by simp [Pt.sz, szL]; omega, [a], by rw [names]; simp, by simp, fun x hx => by simp at hx; omega, by omega⟩
    have ht0 : t = 0 := by omega
    subst ht0
    exact ⟨_, _, pat_int (by omega) hp hn (by omega) h1, .int _ rfl rfl ⟨by simp [Pt.n]; omega, by simp [Pt.n]; omega⟩, by omega, by simp [Pt.sz, szL]; omega, nmOk_none (by rw [names]; simp [namesL]) (by omega)⟩
  intro d
  induction d with
  | zero =>
    intro _ a t ha ht
    obtain ⟨n, hn, hp, hz⟩ := pick14_okN (l := l) (k := a) hr
    exact base 0 a t n ha ht hn hp hz (.inr (.inr (.inr rfl)))
  | succ d ih =>
    intro hd a t ha ht
    obtain ⟨n, hn, hp, hz⟩ := pick14_okN (l := l) (k := a) hr
    by_cases hb : n % 5 = 0 ∨ n % 5 = 1 ∨ t = 0
    · exact base (d + 1) a t n ha ht hn hp hz (by omega)
    have h0 : 0 < t := by omega
    have ih' := ih (by omega)
    have hlen := wCons_len h0 ht
    have hk : n / 5 % (wCons t).length < (wCons t).length := Nat.mod_lt _ hlen.1
    let P : Nat → Nat → Pt := fun a t => if h : a + cap d < 4611686018427387904 ∧ t < 5 then (ih' a t h.1 h.2).choose else wildP
    let N : Nat → Nat → Nat := fun a t => if h : a + cap d < 4611686018427387904 ∧ t < 5 then (ih' a t h.1 h.2).choose_spec.choose else 0
    have hPN : ∀ a t, a + cap d < 4611686018427387904 → t < 5 → ACall Tryd.prog n_fugueref14_Pattern [.sl (eIs l), .lit (.int .i64 (a : Nat)), .lit (.int .i64 (t : Nat)), .lit (.int .i64 (d : Nat))] (.tup [ePt (P a t), .lit (.int .i64 (N a t : Nat))]) ∧ TyP t (P a t) ∧ N a t ≤ a + cap d ∧ (P a t).sz ≤ cap d ∧ NmOk l a (N a t) (P a t) := fun a t h1 h2 => by
      have := (ih' a t h1 h2).choose_spec.choose_spec
      simp only [P, N, dif_pos (show a + cap d < 4611686018427387904 ∧ t < 5 from ⟨h1, h2⟩)]
      exact this
    have hc := pat_con (P := P) (N := N) (d := d) (by simpa [cap] using ha) h0 ht hp hn (by omega) (by omega) (by omega) (fun a t h1 h2 => (hPN a t h1 h2).1) (fun a t h1 h2 => ⟨(hPN a t h1 h2).2.1, (hPN a t h1 h2).2.2.1, (hPN a t h1 h2).2.2.2.1⟩) rfl hk
    have hfs := wCons_fs (List.getElem_mem hk)
    have hm2 : (wCons t)[n / 5 % (wCons t).length].2.length * cap d ≤ 2 * cap d := Nat.mul_le_mul_right _ hfs.1
    obtain ⟨s1, s2, s3, s4⟩ := stp_facts (P := P) (N := N) (c := cap d) (fun a t h1 h2 => ⟨(hPN a t h1 h2).2.1, (hPN a t h1 h2).2.2.1, (hPN a t h1 h2).2.2.2.1⟩) (wCons t)[n / 5 % (wCons t).length].2 (a + 1) hfs.2.1 (by simp [cap] at ha; omega)
    refine ⟨_, _, hc, .con t _ _ rfl (List.getElem_mem hk) s1 s2, by simp only [cap]; omega, by simp only [Pt.sz, cap]; omega, ?_⟩
    obtain ⟨ws, n1, n2, n3, n4⟩ := stp_names (P := P) (N := N) (c := cap d) (l := l) (fun a t h1 h2 => ⟨(hPN a t h1 h2).2.2.1, (hPN a t h1 h2).2.2.2.2⟩) (wCons t)[n / 5 % (wCons t).length].2 (a + 1) hfs.2.1 (by simp [cap] at ha; omega)
    exact ⟨ws, by rw [names, if_neg (by decide)]; exact n1, n2, fun x hx => by have := n3 x hx; omega, by omega⟩

/-- Up to five patterns of a type. -/
theorem pats_okN {l : List Int} (hr : ∀ x ∈ l, InR x) (hl : l.length < 9223372036854775808) : ∃ ps t, ACall Tryd.prog n_fugueref20_Pats [.sl (eIs l)] (.tup [.sl (ePts ps), .lit (.int .i64 (t : Nat))]) ∧ t < 5 ∧ ps.length ≤ 5 ∧ (∀ p ∈ ps, TyP t p ∧ p.sz ≤ 15) ∧ ∀ p ∈ ps, NmP p := by
  have hr' : ∀ x ∈ l.take 40, InR x := fun x hx => hr x (List.mem_of_mem_take hx)
  obtain ⟨n, hn, hp⟩ := pick20_ok (l := l.take 40) (k := 0) hr'
  have pat := pattern_okN hr' 3 (by decide)
  let P : Nat → Nat → Pt := fun a t => if h : a + cap 3 < 4611686018427387904 ∧ t < 5 then (pat a t h.1 h.2).choose else wildP
  let N : Nat → Nat → Nat := fun a t => if h : a + cap 3 < 4611686018427387904 ∧ t < 5 then (pat a t h.1 h.2).choose_spec.choose else 0
  have hPN : ∀ a t, a + cap 3 < 4611686018427387904 → t < 5 → ACall Tryd.prog n_fugueref14_Pattern [.sl (eIs (l.take 40)), .lit (.int .i64 (a : Nat)), .lit (.int .i64 (t : Nat)), .lit (.int .i64 (3 : Nat))] (.tup [ePt (P a t), .lit (.int .i64 (N a t : Nat))]) ∧ TyP t (P a t) ∧ N a t ≤ a + cap 3 ∧ (P a t).sz ≤ cap 3 ∧ NmOk (l.take 40) a (N a t) (P a t) := fun a t h1 h2 => by
    have := (pat a t h1 h2).choose_spec.choose_spec
    simp only [P, N, dif_pos (show a + cap 3 < 4611686018427387904 ∧ t < 5 from ⟨h1, h2⟩)]
    exact this
  have c3 : cap 3 = 15 := rfl
  obtain ⟨t, ht⟩ : ∃ t, t = n % 5 := ⟨_, rfl⟩
  obtain ⟨m, hm⟩ : ∃ m, m = n / 5 % 6 := ⟨_, rfl⟩
  have facts := fun k => stp_facts (P := P) (N := N) (c := 15) (fun a t h1 h2 => ⟨(hPN a t h1 h2).2.1, (hPN a t h1 h2).2.2.1, (hPN a t h1 h2).2.2.2.1⟩) (List.replicate k t) 1 (fun u hu => by rw [(List.mem_replicate.1 hu).2]; omega)
  refine ⟨(stp P N (List.replicate m t) 1).1, t, ?_, by omega, ?_, ?_, ?_⟩
  · have w5 : IntKind.i64.wrap ((n : Int).tdiv 5) = ((n / 5 : Nat) : Int) := by rw [show ((n : Int).tdiv 5) = ((n / 5 : Nat) : Int) by simp]; exact wrap_nat (by omega)
    have w6 : (IntKind.i64.wrap ((n : Int).tdiv 5)).tmod 6 = (m : Int) := by rw [w5, hm]; rfl
    have m5 : ((n : Int).tmod 5) = (t : Int) := by rw [ht]; rfl
    refine acall_of_wc ttok mixed Tryd.func6 rfl (by rfl) (Nat.le_of_ble_eq_true rfl) (by kernel_rfl) ?_
    have inv : ∀ (F : (α : Type) → (α → Fr) → (α → Nat) → α → Prop), F {i : Nat // i ≤ m} (fun i => { vs := [(0, .v (.sl (eIs (l.take 40)))), (4, .v (.lit (.int .i64 (t : Nat)))), (5, .v (.lit (.int .i64 ((stp P N (List.replicate i.1 t) 1).2 : Nat)))), (6, .v (.sl (ePts (stp P N (List.replicate i.1 t) 1).1))), (7, .v (.lit (.int .i64 (i.1 : Nat))))], ow := [(6, 0, 11)] })
      (fun i => m - i.1) ⟨0, Nat.zero_le _⟩ → ∃ α I μ y, F α I μ y := fun F h => ⟨_, _, _, _, h⟩
    have l0 : (0 : Int) = ((0 : Nat) : Int) := rfl
    refine ⟨fun h => ?_, fun h => ?_⟩
    · have h : 40 < l.length := by simp [eIs] at h; omega
      have hdr : List.drop (Int.toNat 0) (List.take (Int.toNat 40) (eIs l)) = eIs (l.take 40) := by simp [eIs]
      have hp' := hp
      rw [← hdr] at hp'
      refine ⟨by decide, by decide, by simp [eIs]; omega, .inl rfl, ?_⟩
      refine .inl ⟨_, hp', ?_⟩
      refine ⟨by decide, ?_⟩
      refine inv _ ⟨⟨⟨congrArg (fun l => SV.v (AV.sl l)) hdr, congrArg (fun l => SV.v (AV.lit (Value.int .i64 l))) m5, rfl, rfl, rfl, trivial⟩, ⟨trivial, trivial⟩, rfl⟩, ?_⟩
      rintro ⟨i, hi⟩
      refine .inl ⟨_, hp, ?_⟩
      refine ⟨by decide, by decide, ?_⟩
      refine ⟨fun h => ?_, fun h => ?_⟩
      · have h := of_decide_eq_true h; simp only at h
        rw [w6] at h
        have h : i < m := by omega
        have st := facts i (by simp; omega)
        have hb : (stp P N (List.replicate i t) 1).2 ≤ 1 + i * 15 := by simpa using st.2.2.1
        have hc := (hPN (stp P N (List.replicate i t) 1).2 t (by omega) (by omega)).1
        refine .inl ⟨_, hc, ?_⟩
        refine ⟨by rw [lenP, st.1]; simp; omega, uniP _, uniMap (f := ePt) (fun _ => rfl) [_], ?_⟩
        have hs := stp_snoc (P := P) (N := N) t (List.replicate i t) 1
        rw [← List.replicate_succ'] at hs
        refine ⟨⟨i + 1, h⟩, by simp; omega, ⟨rfl, rfl, ?_, ?_, ?_, trivial⟩, ⟨rfl, trivial⟩, rfl⟩
        · show _ = SV.v (AV.lit (Value.int .i64 ((stp P N (List.replicate (i + 1) t) 1).2 : Nat)))
          rw [hs]; rfl
        · show _ = SV.v (AV.sl (ePts (stp P N (List.replicate (i + 1) t) 1).1))
          rw [hs, show ePts ((stp P N (List.replicate i t) 1).1 ++ [P (stp P N (List.replicate i t) 1).2 t]) = ePts (stp P N (List.replicate i t) 1).1 ++ [ePt (P (stp P N (List.replicate i t) 1).2 t)] by simp [ePts]]
          rfl
        · exact congrArg (fun l => SV.v (AV.lit (Value.int .i64 l))) (wrap_succ (k := i) (by omega))
      · have h := of_decide_eq_false h; simp only at h
        rw [w6] at h
        have h : i = m := by omega
        subst h
        exact rfl
    · have h : ¬ 40 < l.length := by simp [eIs] at h; omega
      have hdr : l.take 40 = l := List.take_of_length_le (by omega)
      have hp' := hp
      rw [hdr] at hp'
      refine .inl ⟨_, hp', ?_⟩
      refine ⟨by decide, ?_⟩
      refine inv _ ⟨⟨⟨by rw [hdr]; exact rfl, congrArg (fun l => SV.v (AV.lit (Value.int .i64 l))) m5, rfl, rfl, rfl, trivial⟩, ⟨trivial, trivial⟩, rfl⟩, ?_⟩
      rintro ⟨i, hi⟩
      refine .inl ⟨_, hp, ?_⟩
      refine ⟨by decide, by decide, ?_⟩
      refine ⟨fun h => ?_, fun h => ?_⟩
      · have h := of_decide_eq_true h; simp only at h
        rw [w6] at h
        have h : i < m := by omega
        have st := facts i (by simp; omega)
        have hb : (stp P N (List.replicate i t) 1).2 ≤ 1 + i * 15 := by simpa using st.2.2.1
        have hc := (hPN (stp P N (List.replicate i t) 1).2 t (by omega) (by omega)).1
        refine .inl ⟨_, hc, ?_⟩
        refine ⟨by rw [lenP, st.1]; simp; omega, uniP _, uniMap (f := ePt) (fun _ => rfl) [_], ?_⟩
        have hs := stp_snoc (P := P) (N := N) t (List.replicate i t) 1
        rw [← List.replicate_succ'] at hs
        refine ⟨⟨i + 1, h⟩, by simp; omega, ⟨rfl, rfl, ?_, ?_, ?_, trivial⟩, ⟨rfl, trivial⟩, rfl⟩
        · show _ = SV.v (AV.lit (Value.int .i64 ((stp P N (List.replicate (i + 1) t) 1).2 : Nat)))
          rw [hs]; rfl
        · show _ = SV.v (AV.sl (ePts (stp P N (List.replicate (i + 1) t) 1).1))
          rw [hs, show ePts ((stp P N (List.replicate i t) 1).1 ++ [P (stp P N (List.replicate i t) 1).2 t]) = ePts (stp P N (List.replicate i t) 1).1 ++ [ePt (P (stp P N (List.replicate i t) 1).2 t)] by simp [ePts]]
          rfl
        · exact congrArg (fun l => SV.v (AV.lit (Value.int .i64 l))) (wrap_succ (k := i) (by omega))
      · have h := of_decide_eq_false h; simp only at h
        rw [w6] at h
        have h : i = m := by omega
        subst h
        exact rfl
  · have := facts m (by simp; omega)
    rw [this.1]; simp; omega
  · intro p hp
    have := facts m (by simp; omega)
    obtain ⟨i, hi⟩ := List.getElem?_of_mem hp
    have hlt := (List.getElem?_eq_some_iff.1 hi).1
    rw [this.1] at hlt
    have h2 := this.2.1 i p t hi (by rw [List.getElem?_replicate, if_pos (by simpa using hlt)])
    refine ⟨h2, ?_⟩
    exact stp_each (fun a t h1 h2 => ⟨(hPN a t h1 h2).2.2.1, (hPN a t h1 h2).2.2.2.1⟩) _ 1 (fun u hu => by rw [(List.mem_replicate.1 hu).2]; omega) (by simp; omega) p hp
  · exact stp_all (Q := NmP) (c := 15) (fun a t h1 h2 => ⟨(hPN a t h1 h2).2.2.1, nmP_of (hPN a t h1 h2).2.2.2.2 (by rw [List.length_take]; omega)⟩) _ 1 (fun u hu => by rw [(List.mem_replicate.1 hu).2]; omega) (by simp; omega)
end Go.Proofs.YtefdahofpjmnfaaDoor
