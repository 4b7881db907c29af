/- How long compiled cases are in print. No condition. -/
import Derived.Test.YtefdahofpjmnfaaDoorM
import Derived.Test.YtefdahofpjmnfaaDoorO
import Derived.Test.YtefdahofpjmnfaaDoorF
set_option linter.unusedSimpArgs false
set_option linter.unusedVariables false
namespace Go.Proofs.YtefdahofpjmnfaaDoor
open Go Fp
set_option maxRecDepth 10000
set_option maxHeartbeats 16000000
set_option linter.unusedVariables false
set_option linter.unusedSimpArgs false

/-- How many there may be, of rows. -/
def gr : List Rw → Nat
  | [] => 1
  | r :: l => (1 + 14 * (nodesL r.ps + 1)) * gr l
theorem gr_pos : ∀ l, 1 ≤ gr l
  | [] => Nat.le_refl _
  | r :: l => by rw [gr]; exact Nat.mul_pos (by omega) (gr_pos l)
theorem part_hit {K : Kn} {a : Nat} {y : ByteArray} {r x : Rw} {p : Pt} (hp : r.ps[a]? = some p) (ho : p.opn = false) (hx : part K a y r = some x) : nodesL x.ps + 1 ≤ nodesL r.ps ∧ K.hits p = true := by
  unfold part at hx
  rw [hp] at hx
  simp only at hx
  rw [if_neg (by simp [ho])] at hx
  split at hx
  · rename_i hh
    injection hx with hx; subst hx
    refine ⟨?_, hh⟩
    rw [nodes_split hp, nodes_eq p]
    simp only [nodesL_app]
    have : p.f = 3 ∨ p.f = 4 := by
      unfold Kn.hits at hh
      cases K with
      | con s n => simp at hh; exact .inr hh.1
      | int n => simp at hh; exact .inl hh.1
      | none => simp at hh
    rw [if_pos this]; omega
  · cases hx
theorem gr_parts (K : Kn) (a : Nat) (y : ByteArray) : ∀ l : List Rw, gr (parts K a y l) ≤ gr l
  | [] => Nat.le_refl _
  | r :: l => by
    have ih := gr_parts K a y l
    unfold parts at *
    cases hp : part K a y r with
    | none =>
      rw [List.filterMap_cons_none hp, gr]
      exact Nat.le_trans ih (Nat.le_mul_of_pos_left _ (by omega))
    | some x =>
      rw [List.filterMap_cons_some hp, gr, gr]
      have := (part_wt hp).1
      exact Nat.mul_le_mul (by omega) ih
theorem gr_one {K : Kn} {a : Nat} {y : ByteArray} {r : Rw} {l : List Rw} {p : Pt} (hp : r.ps[a]? = some p) (ho : p.opn = false) : gr (parts K a y (r :: l)) ≤ gr l ∨ (K.hits p = true ∧ gr (parts K a y (r :: l)) ≤ (1 + 14 * nodesL r.ps) * gr l) := by
  have ih := gr_parts K a y l
  unfold parts at *
  cases hx : part K a y r with
  | none => rw [List.filterMap_cons_none hx]; exact .inl ih
  | some x =>
    obtain ⟨h1, h2⟩ := part_hit hp ho hx
    rw [List.filterMap_cons_some hx, gr]
    exact .inr ⟨h2, Nat.mul_le_mul (by omega) ih⟩
/-- One of some may be great, the others not. -/
theorem sum_one {α : Type} {f : α → Nat} {A B : Nat} : ∀ {l : List α} {P : α → Prop}, (∀ q ∈ l, f q ≤ B ∨ (P q ∧ f q ≤ A)) → (l.Pairwise fun p q => ¬ (P p ∧ P q)) → (l.map f).sum ≤ A + l.length * B
  | [], _, _, _ => by simp
  | q :: l, P, h, hp => by
    rw [List.pairwise_cons] at hp
    have ih := sum_one (l := l) (P := P) (fun q hq => h q (by simp [hq])) hp.2
    simp only [List.map_cons, List.sum_cons, List.length_cons, Nat.add_mul, Nat.one_mul]
    rcases h q (by simp) with h1 | ⟨h1, h2⟩
    · omega
    · have : (l.map f).sum ≤ l.length * B := by
        have hall : ∀ p ∈ l, f p ≤ B := fun p hp' => by
          rcases h p (by simp [hp']) with h3 | ⟨h3, _⟩
          · exact h3
          · exact absurd ⟨h1, h3⟩ (hp.1 p hp')
        clear ih hp h
        induction l with
        | nil => simp
        | cons p l ih =>
          have := hall p (by simp)
          have := ih (fun q hq => hall q (by simp [hq]))
          simp only [List.map_cons, List.sum_cons, List.length_cons, Nat.add_mul, Nat.one_mul]; omega
      omega
theorem consT_nodup (t : Nat) : (consT t).Pairwise fun p q => p.1 ≠ q.1 := by
  match t with
  | 0 | 1 | 2 | 3 | 4 => decide
  | n + 5 => simp [consT]
theorem ints_nodup (a : Nat) : ∀ (l : List Rw) (out : List Int), out.Pairwise (· ≠ ·) → (l.foldl (intStep a) out).Pairwise (· ≠ ·)
  | [], out, h => h
  | r :: l, out, h => by
    refine ints_nodup a l _ ?_
    unfold intStep
    split
    · split
      · rename_i hc
        rw [List.pairwise_append]
        refine ⟨h, by simp, fun x hx y hy => ?_⟩
        simp at hy; subst hy
        exact fun e => hc.2 (e ▸ hx)
      · exact h
    · exact h

def okB (q : Bd) : Prop := q.1.size ≤ 4 ∧ (∃ t < 5, q.2.1 = wTy t) ∧ q.2.2.size ≤ 650
theorem types_print : ∀ t < 5, ∃ s : ByteArray, s.size ≤ 20 ∧ PT (wTy t) s := fun t ht => by
  match t, ht with
  | 0, _ => exact ⟨_, by decide, pcon_ok sInt (by decide)⟩
  | 1, _ => exact ⟨_, by decide, pcon_ok sBool (by decide)⟩
  | 2, _ => exact ⟨_, by decide, papp_ok sL sInt (by decide) (by decide) (by decide) (by decide)⟩
  | 3, _ => exact ⟨_, by decide, pcon_ok sT (by decide)⟩
  | 4, _ => exact ⟨_, by decide, papp_ok sL sBool (by decide) (by decide) (by decide) (by decide)⟩
  | n + 5, h => omega
open Classical in
noncomputable def tyS (t : Tp) : ByteArray := if h : ∃ s : ByteArray, s.size ≤ 20 ∧ PT t s then h.choose else .empty
theorem tyS_ok {t : Nat} (ht : t < 5) : PT (wTy t) (tyS (wTy t)) ∧ (tyS (wTy t)).size ≤ 20 := by
  have h := types_print t ht
  unfold tyS
  rw [dif_pos h]
  exact ⟨h.choose_spec.2, h.choose_spec.1⟩
open Classical in
noncomputable def prS (to : Tp) (B : Nat) (c : Cr) : ByteArray := if h : ∃ s : ByteArray, s.size ≤ B ∧ Pr (eCr to c) s then h.choose else .empty
theorem prS_ok {to : Tp} {B : Nat} {c : Cr} (h : ∃ s : ByteArray, s.size ≤ B ∧ Pr (eCr to c) s) : Pr (eCr to c) (prS to B c) ∧ (prS to B c).size ≤ B := by
  unfold prS
  rw [dif_pos h]
  exact ⟨h.choose_spec.2, h.choose_spec.1⟩
open Classical in
noncomputable def hdS (to : Tp) (h : Hd) (c : Cr) : ByteArray := if h : ∃ s : ByteArray, s.size ≤ 1420 ∧ ACall Tryd.prog n_fugueref18_takes [eAlt to h c] (.lit (.string s)) then h.choose else .empty
theorem hdS_ok {to : Tp} {h : Hd} {c : Cr} (k : ∃ s : ByteArray, s.size ≤ 1420 ∧ ACall Tryd.prog n_fugueref18_takes [eAlt to h c] (.lit (.string s))) : ACall Tryd.prog n_fugueref18_takes [eAlt to h c] (.lit (.string (hdS to h c))) ∧ (hdS to h c).size ≤ 1420 := by
  unfold hdS
  rw [dif_pos k]
  exact ⟨k.choose_spec.2, k.choose_spec.1⟩

abbrev unit : Nat := 700000
/-- Alternatives, each with its text. -/
theorem cas_size {α : Type} (to : Tp) (T : ByteArray) (hT : PT to T) (hTs : T.size ≤ 20) (v : ByteArray) (hv : v.size ≤ 700) (hd : α → Hd) (c : α → Cr) (g : α → Nat) (l : List α) (hl : l.length < 1000)
    (h1 : ∀ q ∈ l, ∃ s : ByteArray, s.size ≤ 1420 ∧ ACall Tryd.prog n_fugueref18_takes [eAlt to (hd q) (c q)] (.lit (.string s))) (h2 : ∀ q ∈ l, ∃ s : ByteArray, s.size ≤ unit * g q ∧ Pr (eCr to (c q)) s)
    (hb : 1500 * l.length + unit * (l.map g).sum ≤ 4611686018426000000) : ∃ s : ByteArray, s.size ≤ 1000 + (1500 * l.length + unit * (l.map g).sum) ∧ Pr (eCr to (.cas v (l.map hd) (l.map c))) s := by
  have hc : costL (l.map fun q => (hd q, c q, hdS to (hd q) (c q), prS to (unit * g q) (c q))) ≤ 1500 * l.length + unit * (l.map g).sum := by
    clear hb h1 hl
    induction l with
    | nil => simp [costL]
    | cons q l ih =>
      have i1 := ih (fun q hq => h2 q (by simp [hq]))
      have i2 := (prS_ok (h2 q (by simp))).2
      unfold costL at i1 ⊢
      simp only [List.map_cons, List.sum_cons, List.length_cons, Nat.mul_add, Nat.mul_one] at *; omega
  obtain ⟨s, s1, s2⟩ := print_cas to T hT hTs v hv (l.map fun q => (hd q, c q, hdS to (hd q) (c q), prS to (unit * g q) (c q))) (by simpa using hl) (fun z hz => by
    obtain ⟨q, hq, rfl⟩ := List.mem_map.1 hz
    have k1 := hdS_ok (h1 q hq)
    exact ⟨k1.1, k1.2, (prS_ok (h2 q hq)).1⟩) (by omega)
  rw [List.map_map, List.map_map] at s2
  exact ⟨s, by omega, s2⟩

theorem print_made (to : Tp) (T : ByteArray) (hT : PT to T) (hTs : T.size ≤ 20) (b : Nat → Int) : ∀ (n : Nat) (l : List Rw) (cs : List Nat) (ns : List ByteArray), n ≤ 300 → RowsTy cs n l → l.length ≤ 5 → ns.length = cs.length → (∀ s ∈ ns, s.size + 2 * n ≤ 650) →
    (∀ r ∈ l, r.lost.length + n ≤ 300 ∧ (∀ q ∈ r.lost, okB q) ∧ 0 ≤ b r.body ∧ b r.body < 1000) → unit * gr l ≤ 4611686018425000000 → ∃ s : ByteArray, s.size ≤ unit * gr l ∧ Pr (eCr to (made b n l ns)) s := by
  intro n
  induction n with
  | zero => intro l cs ns _ h; have := h.fuel; omega
  | succ n ih =>
    intro l cs ns hn3 h hl5 hn hs hL hG
    have hcap := h.cap
    have hfu := h.fuel
    cases l with
    | nil =>
      rw [made]
      obtain ⟨s, h1, h2⟩ := print_fail to T hT hTs
      exact ⟨s, by rw [gr]; unfold unit; omega, h2⟩
    | cons r l =>
      have hrow := h.row r (by simp)
      have hrt := hrow.ty
      have hpl := hrt.len
      have hlr := hL r (by simp)
      obtain ⟨i, hi⟩ := shutAt_ex r.ps
      rcases hi with ⟨k, rfl, hk, h1, h2⟩ | ⟨rfl, ho⟩
      · obtain ⟨t, ha⟩ : ∃ t, cs[k]? = some t := ⟨_, List.getElem?_eq_getElem (by omega)⟩
        obtain ⟨p, hp, hty⟩ := hrt.get ha
        have hpk : p = r.ps[k] := by rw [List.getElem?_eq_getElem hk] at hp; injection hp with hp; exact hp.symm
        have hop : p.opn = false := by rw [hpk]; exact h1
        obtain ⟨v, hv⟩ : ∃ v, ns[k]? = some v := ⟨_, List.getElem?_eq_getElem (by omega)⟩
        have hvm := hs v (List.mem_of_getElem? hv)
        have hix := shutIx_some hk h1 h2
        have ht5 : t < 5 := h.col t (List.mem_of_getElem? ha)
        have hsz : ∀ own, (∀ s ∈ own, s.size = v.size + 2) → ∀ s ∈ putN ns k own, s.size + 2 * n ≤ 650 := fun own ho s hm => by
          rcases putN_mem hm with hm | hm
          · have := hs s hm; omega
          · have := ho s hm; omega
        have hbp : ∀ K, ∀ x ∈ parts K k v (r :: l), x.lost.length + n ≤ 300 ∧ (∀ q ∈ x.lost, okB q) ∧ 0 ≤ b x.body ∧ b x.body < 1000 := fun K x hx => by
          obtain ⟨r', hr', hp'⟩ := List.mem_filterMap.1 hx
          obtain ⟨e1, e2, e3, e4⟩ := hL r' hr'
          obtain ⟨p', hp2, hty'⟩ := (h.tys r' hr').get ha
          unfold part at hp'
          rw [hp2] at hp'
          simp only at hp'
          split at hp'
          · injection hp' with hp'; subst hp'
            simp only
            refine ⟨by rw [List.length_append]; split <;> simp only [List.length_cons, List.length_nil] <;> omega, fun q hq => ?_, e3, e4⟩
            rcases List.mem_append.1 hq with hq | hq
            · exact e2 q hq
            · split at hq
              · rename_i hf2
                simp at hq; subst hq
                cases hty' with
                | any _ _ _ _ hv' => exact ⟨(hv' hf2).1, ⟨t, ht5, (hv' hf2).2⟩, by simp only; omega⟩
                | int _ h3 => omega
                | con _ _ _ h4 => omega
              · simp at hq
          · split at hp'
            · injection hp' with hp'; subst hp'
              exact ⟨by simp only; omega, e2, e3, e4⟩
            · cases hp'
        have hgr : gr (r :: l) = (1 + 14 * (nodesL r.ps + 1)) * gr l := by rw [gr]
        have hG2 : ∀ K, unit * gr (parts K k v (r :: l)) ≤ 4611686018425000000 := fun K => Nat.le_trans (Nat.mul_le_mul_left _ (gr_parts K k v (r :: l))) hG
        have hlen : ∀ K, (parts K k v (r :: l)).length ≤ 5 := fun K => Nat.le_trans (parts_le K k v (r :: l)) hl5
        have h43 : p.f = 4 ∨ p.f = 3 := by
          have := hty.form.1
          simp only [Pt.opn, Bool.or_eq_false_iff, decide_eq_false_iff_not] at hop
          omega
        have hgp := gr_pos l
        have fin : ∀ (S len : Nat), len ≤ 6 → S ≤ (1 + 14 * nodesL r.ps) * gr l + len * gr l → 1000 + (1500 * len + unit * S) ≤ unit * gr (r :: l) := fun S len hlen hS => by
          have e1 : (1 + 14 * (nodesL r.ps + 1)) * gr l = (1 + 14 * nodesL r.ps) * gr l + 14 * gr l := by rw [← Nat.add_mul]; congr 1
          have e2 : len * gr l ≤ 6 * gr l := Nat.mul_le_mul_right _ hlen
          rw [hgr, e1, Nat.mul_add]
          have e3 : unit * S ≤ unit * ((1 + 14 * nodesL r.ps) * gr l) + unit * (6 * gr l) := by rw [← Nat.mul_add]; exact Nat.mul_le_mul_left _ (by omega)
          have e4 : unit * (14 * gr l) = unit * (6 * gr l) + unit * (8 * gr l) := by rw [← Nat.mul_add]; congr 1; omega
          have e5 : unit * 8 ≤ unit * (8 * gr l) := Nat.mul_le_mul_left _ (by omega)
          unfold unit at *
          omega
        by_cases h4 : p.f = 4
        · rcases colCons_ty ha h.tys with ⟨_, hno⟩ | ⟨hks, ht0, _, hh⟩
          · exact absurd h4 (hno r (by simp) p hp)
          · have hmd : made b (n + 1) (r :: l) ns = .cas v ((consT t).map fun q => (1, 0, q.1, kidsN v q.2.length)) ((consT t).map fun q => made b n (parts (.con q.1 q.2.length) k v (r :: l)) (putN ns k (kidsN v q.2.length))) := by
              rw [made, hix]; simp only [hp, hv, if_pos h4, hks]
            rw [hmd]
            have hcl := consT_len t
            have hS := sum_one (l := consT t) (f := fun q => gr (parts (.con q.1 q.2.length) k v (r :: l))) (A := (1 + 14 * nodesL r.ps) * gr l) (B := gr l) (P := fun q => q.1 = p.s) (fun q hq => by
              rcases gr_one (K := .con q.1 q.2.length) (y := v) (l := l) hp hop with h5 | ⟨h5, h6⟩
              · exact .inl h5
              · simp [Kn.hits] at h5
                exact .inr ⟨h5.2.symm, h6⟩) ((consT_nodup t).imp fun hne hh => hne (hh.1.trans hh.2.symm))
            have hfin := fin _ (consT t).length (by omega) hS
            have hres := cas_size to T hT hTs v (by omega) (fun q : ByteArray × List Tp => (1, 0, q.1, kidsN v q.2.length)) (fun q => made b n (parts (.con q.1 q.2.length) k v (r :: l)) (putN ns k (kidsN v q.2.length))) (fun q => gr (parts (.con q.1 q.2.length) k v (r :: l))) (consT t) (by omega) (fun q hq => ?_) (fun q hq => ?_) (by omega)
            · obtain ⟨s, s1, s2⟩ := hres
              exact ⟨s, by omega, s2⟩
            · obtain ⟨fs, hfs, hfl⟩ := consT_at hq
              have : fs.length ≤ 2 := (wCons_fs hfs).1
              have hq5 : q.1.size ≤ 5 := by
                have hall : ∀ t < 5, ∀ q ∈ consT t, q.1.size ≤ 5 := by decide
                exact hall t ht5 q hq
              exact takes_con to q.1 (kidsN v q.2.length) _ (by rw [kidsN_len]; omega) hq5 (fun s hm => by have := kidsN_sz hm; omega)
            · obtain ⟨fs, hfs, hfl⟩ := consT_at hq
              have hT' := h.conA (y := v) ha hfs ⟨r, by simp, p, hp, h4⟩
              rw [hfl] at hT'
              exact ih _ _ _ (by omega) hT' (hlen _) (by rw [putN_len _ _ _ (by omega), kidsN_len]; simp; omega) (hsz _ (fun s hm => kidsN_sz hm)) (hbp _) (hG2 _)
        · have h3 : p.f = 3 := by omega
          obtain ⟨ht, _, _⟩ := ty_int hty h3
          subst ht
          have hmd : made b (n + 1) (r :: l) ns = .cas v ((intsOf k (r :: l)).map (fun x => (2, x, .empty, [])) ++ [(3, 0, .empty, [])]) ((intsOf k (r :: l)).map (fun x => made b n (parts (.int x) k v (r :: l)) (putN ns k [])) ++ [made b n (parts .none k v (r :: l)) (putN ns k [])]) := by
            rw [made, hix]; simp only [hp, hv, if_neg h4]
          rw [hmd]
          have hil : (intsOf k (r :: l)).length ≤ 5 := by have := ints_le k (r :: l) []; unfold intsOf; simp at *; omega
          have hmem : ∀ x ∈ intsOf k (r :: l), (0 : Nat) = 0 ∧ 0 ≤ x ∧ x < 1000 := ints_mem ha h.tys (fun x hx => by simp at hx)
          have less : ∀ K, Fit 0 K [] → ∃ s : ByteArray, s.size ≤ unit * gr (parts K k v (r :: l)) ∧ Pr (eCr to (made b n (parts K k v (r :: l)) (putN ns k []))) s := fun K hK =>
            ih _ _ _ (by omega) (h.lessA ha hK) (hlen _) (by rw [putN_len _ _ _ (by omega)]; simp; omega) (hsz [] (fun s hm => by simp at hm)) (hbp K) (hG2 K)
          -- the integers, and all else, as one list
          let ks : List (Option Int) := (intsOf k (r :: l)).map some ++ [none]
          let kn : Option Int → Kn := fun o => match o with | some x => .int x | none => .none
          let hd : Option Int → Hd := fun o => match o with | some x => (2, x, .empty, []) | none => (3, 0, .empty, [])
          have hfit : ∀ o, Fit 0 (kn o) [] := fun o => match o with | some x => .int x | none => .none 0
          have hS := sum_one (l := ks) (f := fun o => gr (parts (kn o) k v (r :: l))) (A := (1 + 14 * nodesL r.ps) * gr l) (B := gr l) (P := fun o => o = some p.n) (fun o ho => by
            rcases gr_one (K := kn o) (y := v) (l := l) hp hop with h5 | ⟨h5, h6⟩
            · exact .inl h5
            · refine .inr ⟨?_, h6⟩
              cases o with
              | none => simp [kn, Kn.hits] at h5
              | some x => simp [kn, Kn.hits] at h5; rw [h5.2]) (by
            have hnd := ints_nodup k (r :: l) [] (by simp)
            change (intsOf k (r :: l)).Pairwise _ at hnd
            rw [List.pairwise_append, List.pairwise_map]
            refine ⟨hnd.imp (fun hne hh => hne (Option.some.inj (hh.1.trans hh.2.symm))), by simp, fun x hx y hy hh => ?_⟩
            simp at hy; subst hy; cases hh.2)
          have hkl : ks.length ≤ 6 := by simp [ks]; omega
          have hfin := fin _ ks.length hkl hS
          have hres := cas_size to T hT hTs v (by omega) hd (fun o => made b n (parts (kn o) k v (r :: l)) (putN ns k [])) (fun o => gr (parts (kn o) k v (r :: l))) ks (by omega) (fun o ho => ?_) (fun o ho => less (kn o) (hfit o)) (by omega)
          · obtain ⟨s, s1, s2⟩ := hres
            simp only [ks, List.map_append, List.map_map, List.map_cons, List.map_nil] at s2
            exact ⟨s, by omega, s2⟩
          · cases o with
            | none => exact takes_else to _
            | some x =>
              have hx : x ∈ intsOf k (r :: l) := by simpa [ks] using ho
              obtain ⟨_, hx0, hx1⟩ := hmem x hx
              obtain ⟨y, rfl⟩ : ∃ y : Nat, x = y := ⟨x.toNat, by omega⟩
              exact takes_int to y (by omega) _
      · have hmd : made b (n + 1) (r :: l) ns = .leaf (r.lost ++ ownB r.ps ns) (b r.body) := by rw [made, shutIx_none ho]
        rw [hmd]
        obtain ⟨m, hm⟩ : ∃ m : Nat, b r.body = m := ⟨(b r.body).toNat, by omega⟩
        rw [hm]
        have hgp := gr_pos (r :: l)
        have hgu : unit ≤ unit * gr (r :: l) := Nat.le_mul_of_pos_right _ hgp
        have hok : ∀ q ∈ r.lost ++ ownB r.ps ns, okB q := fun q hq => by
          rcases List.mem_append.1 hq with hq | hq
          · exact hlr.2.1 q hq
          · unfold ownB at hq
            obtain ⟨⟨p, s⟩, hz, he⟩ := List.mem_filterMap.1 hq
            simp only at he
            split at he
            · rename_i hf2
              injection he with he; subst he
              obtain ⟨j, hj⟩ := List.getElem?_of_mem hz
              rw [List.getElem?_zip_eq_some] at hj
              simp only at hj
              have hjl := (List.getElem?_eq_some_iff.1 hj.1).1
              obtain ⟨t, hct⟩ : ∃ t, cs[j]? = some t := ⟨_, List.getElem?_eq_getElem (by omega)⟩
              obtain ⟨p', hp', hty⟩ := hrt.get hct
              rw [hj.1] at hp'; injection hp' with hp'; subst hp'
              have := hs s (List.mem_of_getElem? hj.2)
              cases hty with
              | any _ _ _ _ hv' => exact ⟨(hv' hf2).1, ⟨t, h.col t (List.mem_of_getElem? hct), (hv' hf2).2⟩, by simp only; omega⟩
              | int _ h3 => omega
              | con _ _ _ h4 => omega
            · cases he
        have hbl : (r.lost ++ ownB r.ps ns).length ≤ 700 := by have := ownB_len r.ps ns; rw [List.length_append]; omega
        generalize r.lost ++ ownB r.ps ns = bs at hok hbl
        cases bs with
        | nil =>
          obtain ⟨s, s1, s2⟩ := print_int m (by omega)
          exact ⟨s, by unfold unit at *; omega, s2⟩
        | cons q bs =>
          obtain ⟨s, s1, s2⟩ := print_let m (by omega) (q :: bs) tyS hbl (fun z hz => by
            obtain ⟨k1, ⟨t, k2, k3⟩, k4⟩ := hok z hz
            rw [k3]
            exact ⟨k1, (tyS_ok k2).1, (tyS_ok k2).2, by omega⟩)
          exact ⟨s, by unfold unit at *; omega, s2⟩
end Go.Proofs.YtefdahofpjmnfaaDoor

namespace Go.Proofs.YtefdahofpjmnfaaDoor
open Go Fp
set_option maxRecDepth 10000
set_option maxHeartbeats 16000000
set_option linter.unusedVariables false

def bId : Nat → Int := fun k => (k : Int)
theorem upto_bId (n : Nat) : ∀ (k : Nat) (x : Int), (upto n)[k]? = some x → bId k = x := fun k x h => by
  have hk := (List.getElem?_eq_some_iff.1 h).1
  rw [upto_len] at hk
  rw [upto_get hk] at h
  injection h
theorem gr_le : ∀ (l : List Rw), (∀ r ∈ l, nodesL r.ps ≤ 15) → gr l ≤ 225 ^ l.length
  | [], _ => Nat.le_refl _
  | r :: l, h => by
    have h1 := h r (by simp)
    have h2 := gr_le l (fun r hr => h r (by simp [hr]))
    rw [gr, List.length_cons, Nat.pow_succ, Nat.mul_comm]
    exact Nat.mul_le_mul h2 (by omega)
theorem rowsFrom_body : ∀ (l : List Pt) (n : Nat) (r : Rw), r ∈ rowsFrom n l → r.lost = [] ∧ r.body < n + l.length
  | [], n, r, h => by simp [rowsFrom] at h
  | p :: l, n, r, h => by
    rw [rowsFrom] at h
    rcases List.mem_cons.1 h with rfl | h
    · exact ⟨rfl, by simp⟩
    · have := rowsFrom_body l (n + 1) r h
      exact ⟨this.1, by have := this.2; simp; omega⟩

theorem coverCompiles_ok {l : List Int} (hl : l.length < 9223372036854775808) (hr : ∀ x ∈ l, InR x) : ACall Tryd.prog n_fuguelaw20_CoverCompiles [.sl (eIs l)] (.sb true) := by
  obtain ⟨ps, t, hP, ht, hlen, hps⟩ := pats_ok hr hl
  have hok : PatsOk t ps := ⟨ht, by omega, hps⟩
  have hB := bodies_ok ps.length (by omega)
  have hlp : (ePts ps).length = ps.length := lenP ps
  rw [← hlp] at hB
  have hT := type20_ok t ht
  have hT0 := type20_ok 0 (by decide)
  have hC := Compile_ok (wTy 0) (wTy t) ⟨#[115]⟩ (by decide) hok bId (upto (ePts ps).length) (by rw [upto_len, hlp]) (upto_bId _)
  have hD := compileD_ok hok (wTy 0) ⟨#[115]⟩ (by decide) bId (upto (ePts ps).length) (fun k hk => upto_get (by rw [hlp]; exact hk))
  have hgr : unit * gr (rowsFrom 0 ps) ≤ 4611686018425000000 := by
    have h1 := gr_le (rowsFrom 0 ps) (fun r hr => (hok.rows r hr).2)
    rw [rowsFrom_len] at h1
    have h2 : 225 ^ ps.length ≤ 225 ^ 5 := Nat.pow_le_pow_right (by decide) hlen
    have h3 : unit * gr (rowsFrom 0 ps) ≤ unit * 225 ^ 5 := Nat.mul_le_mul_left _ (by omega)
    have h4 : unit * 225 ^ 5 ≤ 4611686018425000000 := by decide
    omega
  obtain ⟨S, hS1, hS2⟩ := print_made (wTy 0) _ (tyS_ok (by decide)).1 (tyS_ok (by decide)).2 bId 300 (rowsFrom 0 ps) [t] [⟨#[115]⟩] (Nat.le_refl _) hok.all (by rw [rowsFrom_len]; exact hlen) rfl (fun s hs => by simp at hs; subst hs; decide) (fun r hr => by
    obtain ⟨h1, h2⟩ := rowsFrom_body ps 0 r hr
    rw [h1]
    exact ⟨by simp, fun q hq => by simp at hq, by unfold bId; omega, by unfold bId; omega⟩) hgr
  generalize made bId 300 (rowsFrom 0 ps) [⟨#[115]⟩] = X at hC hD hS2
  refine acall_of_wsem ttok mixed Tryd.func3 rfl (by rfl) (Nat.le_of_ble_eq_true rfl) (by kernel_rfl) ?_
  refine Wsem.seq ttok mixed ?_
  refine Wsem.seq ttok mixed ?_
  refine .inl ⟨_, hP, ?_⟩
  refine Wsem.seq ttok mixed ?_
  refine .inl ⟨_, hB, ?_⟩
  refine Wsem.seq ttok mixed ?_
  refine .inl ⟨_, program_ok, ?_⟩
  refine .inl ⟨_, new_ok, ?_⟩
  refine .inl ⟨_, hT, ?_⟩
  refine .inl ⟨_, hT0, ?_⟩
  refine .inl ⟨_, hC, ?_⟩
  refine Wsem.seq ttok mixed ?_
  refine .inl ⟨_, datas_ok, ?_⟩
  refine .inl ⟨_, hT0, ?_⟩
  refine .inl ⟨_, hD, ?_⟩
  refine Wsem.of ttok mixed ?_
  refine .inl ⟨_, hS2, ?_⟩
  refine .inl ⟨_, hS2, ?_⟩
  refine ⟨fun hbs => ?_, fun hbs => ?_⟩ <;> first | (exfalso; revert hbs; (simp); done) | skip
  refine .inl ⟨_, lives_ok, ?_⟩
  refine ⟨by kernel_rfl, ?_⟩
  exact rfl
end Go.Proofs.YtefdahofpjmnfaaDoor
