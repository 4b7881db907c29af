/- A part of the proof of a given statement: contracts of functions of the program, under no condition but those that each states. -/
import Derived.Test.YtefdahofpjmnfaaL10
set_option linter.unusedSimpArgs false
set_option linter.unusedVariables false
namespace Go.Proofs.Ytefdahofpjmnfaa
open Go Fp
set_option maxRecDepth 10000
set_option maxHeartbeats 4000000

/-- Patterns are of types, side by side. -/
def TyPs : List Nat → List Pt → Prop
  | [], [] => True
  | t :: cs, p :: ps => TyP t p ∧ TyPs cs ps
  | _, _ => False
theorem TyPs.len : ∀ {cs : List Nat} {ps : List Pt}, TyPs cs ps → ps.length = cs.length
  | [], [], _ => rfl
  | t :: cs, p :: ps, h => by simp [TyPs.len h.2]
theorem TyPs.app : ∀ {cs ds : List Nat} {ps qs : List Pt}, TyPs cs ps → TyPs ds qs → TyPs (cs ++ ds) (ps ++ qs)
  | [], ds, [], qs, _, k => k
  | t :: cs, ds, p :: ps, qs, h, k => ⟨h.1, TyPs.app h.2 k⟩
theorem TyPs.take : ∀ {cs : List Nat} {ps : List Pt} (a : Nat), TyPs cs ps → TyPs (cs.take a) (ps.take a)
  | _, _, 0, _ => by simp [TyPs]
  | [], [], a + 1, _ => trivial
  | t :: cs, p :: ps, a + 1, h => ⟨h.1, TyPs.take a h.2⟩
theorem TyPs.drop : ∀ {cs : List Nat} {ps : List Pt} (a : Nat), TyPs cs ps → TyPs (cs.drop a) (ps.drop a)
  | _, _, 0, h => h
  | [], [], a + 1, _ => trivial
  | t :: cs, p :: ps, a + 1, h => TyPs.drop (cs := cs) (ps := ps) a h.2
theorem TyPs.get : ∀ {cs : List Nat} {ps : List Pt} {a t : Nat}, TyPs cs ps → cs[a]? = some t → ∃ p, ps[a]? = some p ∧ TyP t p
  | t :: cs, p :: ps, 0, u, h, e => by simp at e; subst e; exact ⟨p, rfl, h.1⟩
  | t :: cs, p :: ps, a + 1, u, h, e => by simpa using TyPs.get (a := a) h.2 (by simpa using e)
  | [], ps, a, u, h, e => by simp at e
  | t :: cs, [], a, u, h, e => h.elim
theorem TyPs.of : ∀ {cs : List Nat} {ps : List Pt}, ps.length = cs.length → (∀ (i : Nat) (x : Pt) u, ps[i]? = some x → cs[i]? = some u → TyP u x) → TyPs cs ps
  | [], [], _, _ => trivial
  | t :: cs, p :: ps, hl, h => ⟨h 0 p t rfl rfl, TyPs.of (by simpa using hl) fun i x u hx hu => h (i + 1) x u (by simpa using hx) (by simpa using hu)⟩
  | [], p :: ps, hl, _ => by simp at hl
  | t :: cs, [], hl, _ => by simp at hl
theorem TyPs.mem : ∀ {cs : List Nat} {ps : List Pt}, TyPs cs ps → ∀ p ∈ ps, ∃ t, TyP t p
  | t :: cs, q :: ps, h, p, hp => by
    rcases List.mem_cons.1 hp with rfl | hp
    · exact ⟨t, h.1⟩
    · exact TyPs.mem h.2 p hp
  | [], [], _, p, hp => by simp at hp
  | [], _ :: _, h, _, _ => h.elim
  | _ :: _, [], h, _, _ => h.elim

theorem ty_wild (t : Nat) : TyP t wildP := .any t _ (.inl rfl) rfl (fun h => by cases h)
theorem tyPs_wild : ∀ fs : List Nat, TyPs fs (List.replicate fs.length wildP)
  | [] => trivial
  | t :: fs => ⟨ty_wild t, tyPs_wild fs⟩

theorem TyP.form {t : Nat} {p : Pt} (h : TyP t p) : (p.f = 1 ∨ p.f = 2 ∨ p.f = 3 ∧ p.k = [] ∨ p.f = 4) ∧ p.k.length ≤ 2 := by
  cases h with
  | any _ _ hf hk => exact ⟨by rcases hf with h | h <;> simp [h], by rw [hk]; simp⟩
  | int _ hf hk => exact ⟨.inr (.inr (.inl ⟨hf, hk⟩)), by rw [hk]; simp⟩
  | con _ _ fs hf hs hl => exact ⟨.inr (.inr (.inr hf)), by rw [hl]; exact (wCons_fs hs).1⟩

/-- What is looked at is of the type, with fields of these types. -/
inductive Fit : Nat → Kn → List Nat → Prop
  | con (t : Nat) (s : ByteArray) (fs : List Nat) (h : (s, fs) ∈ wCons t) : Fit t (.con s fs.length) fs
  | int (n : Int) : Fit 0 (.int n) []
  | none (t : Nat) : Fit t .none []
theorem wCons_uniq {t : Nat} {s : ByteArray} {fs gs : List Nat} (h : (s, fs) ∈ wCons t) (k : (s, gs) ∈ wCons t) : fs = gs := by
  have ne : sFalse ≠ sTrue ∧ sN ≠ sC ∧ sA ≠ sB ∧ sA ≠ sD ∧ sB ≠ sD := by decide
  match t with
  | 0 => simp [wCons] at h
  | 1 => simp [wCons] at h k; rcases h with ⟨_, rfl⟩ | ⟨_, rfl⟩ <;> rcases k with ⟨_, rfl⟩ | ⟨_, rfl⟩ <;> rfl
  | 2 => simp [wCons] at h k; rcases h with ⟨rfl, rfl⟩ | ⟨rfl, rfl⟩ <;> rcases k with ⟨hs, rfl⟩ | ⟨hs, rfl⟩ <;> first | rfl | (exact absurd hs (by decide))
  | 3 => simp [wCons] at h k; rcases h with ⟨rfl, rfl⟩ | ⟨rfl, rfl⟩ | ⟨rfl, rfl⟩ <;> rcases k with ⟨hs, rfl⟩ | ⟨hs, rfl⟩ | ⟨hs, rfl⟩ <;> first | rfl | (exact absurd hs (by decide))
  | 4 => simp [wCons] at h k; rcases h with ⟨rfl, rfl⟩ | ⟨rfl, rfl⟩ <;> rcases k with ⟨hs, rfl⟩ | ⟨hs, rfl⟩ <;> first | rfl | (exact absurd hs (by decide))
  | n + 5 => simp [wCons] at h
theorem Fit.many {t : Nat} {K : Kn} {fs : List Nat} (h : Fit t K fs) : K.many = fs.length := by cases h <;> rfl
theorem Fit.many2 {t : Nat} {K : Kn} {fs : List Nat} (h : Fit t K fs) : K.many ≤ 2 := by
  rw [h.many]
  cases h with
  | con _ _ _ h => exact (wCons_fs h).1
  | _ => simp

/-- A row of columns of these types, so much of it lost. -/
structure RowTy (cs : List Nat) (N : Nat) (r : Rw) : Prop where
  ty : TyPs cs r.ps
  lost : r.lost.length + N < 10000

theorem RowTy.col {cs : List Nat} {N a t : Nat} {r : Rw} (h : RowTy cs N r) (ha : cs[a]? = some t) (hc : cs.length < 10000) : colOk a r := by
  obtain ⟨p, hp, ht⟩ := h.ty.get ha
  exact ⟨p, hp, ht.form.1, ht.form.2, by rw [h.ty.len]; exact hc, by have := h.lost; omega⟩

theorem hits_kids {t : Nat} {K : Kn} {fs : List Nat} {p : Pt} (hp : TyP t p) (hK : Fit t K fs) (hh : K.hits p = true) : TyPs fs p.k := by
  cases hK with
  | con _ s _ h =>
    simp only [Kn.hits, Bool.and_eq_true, decide_eq_true_eq] at hh
    cases hp with
    | any _ _ hf hk => omega
    | int _ hf => omega
    | con _ _ gs hf hs hl hk =>
      rw [hh.2] at hs
      rw [wCons_uniq h hs]
      exact TyPs.of hl hk
  | int n =>
    simp only [Kn.hits, Bool.and_eq_true, decide_eq_true_eq] at hh
    cases hp with
    | any _ _ hf hk => omega
    | int _ hf hk => rw [hk]; trivial
    | con _ _ gs hf => omega
  | none => simp [Kn.hits] at hh

theorem part_ty {cs fs : List Nat} {N a t : Nat} {r x : Rw} {K : Kn} {y : ByteArray} (h : RowTy cs (N + 1) r) (ha : cs[a]? = some t) (hK : Fit t K fs) (hx : part K a y r = some x) : RowTy (cs.take a ++ fs ++ cs.drop (a + 1)) N x := by
  obtain ⟨p, hp, ht⟩ := h.ty.get ha
  have hl := h.lost
  unfold part at hx
  rw [hp] at hx
  simp only at hx
  split at hx
  · injection hx with hx; subst hx
    refine ⟨((h.ty.take a).app ?_).app (h.ty.drop (a + 1)), ?_⟩
    · rw [hK.many]; exact tyPs_wild fs
    · simp only [List.length_append]; split <;> simp <;> omega
  · split at hx
    · rename_i hh
      injection hx with hx; subst hx
      exact ⟨((h.ty.take a).app (hits_kids ht hK hh)).app (h.ty.drop (a + 1)), by simp only; omega⟩
    · cases hx
theorem parts_ty {cs fs : List Nat} {N a t : Nat} {l : List Rw} {K : Kn} {y : ByteArray} (h : ∀ r ∈ l, RowTy cs (N + 1) r) (ha : cs[a]? = some t) (hK : Fit t K fs) : ∀ r ∈ parts K a y l, RowTy (cs.take a ++ fs ++ cs.drop (a + 1)) N r := fun x hx => by
  obtain ⟨r, hr, hp⟩ := List.mem_filterMap.1 hx
  exact part_ty (h r hr) ha hK hp

/-! How much there is to look at. -/
theorem nodes_eq (p : Pt) : p.nodes = (if p.f = 3 ∨ p.f = 4 then 1 else 0) + nodesL p.k := by cases p; rw [Pt.nodes]; rfl
theorem nodes_split {ps : List Pt} {a : Nat} {p : Pt} (h : ps[a]? = some p) : nodesL ps = nodesL (ps.take a) + p.nodes + nodesL (ps.drop (a + 1)) := by
  have hlt := (List.getElem?_eq_some_iff.1 h).1
  have e : ps = ps.take a ++ (p :: ps.drop (a + 1)) := by
    rw [List.getElem?_eq_getElem hlt] at h; injection h with h; subst h
    rw [List.getElem_cons_drop, List.take_append_drop]
  conv => lhs; rw [e]
  rw [nodesL_app]; simp only [nodesL]; omega
theorem nodes_wild : ∀ n : Nat, nodesL (List.replicate n wildP) = 0
  | 0 => rfl
  | n + 1 => by rw [List.replicate_succ]; simp only [nodesL, nodes_wild n]; rfl
def wt : List Rw → Nat
  | [] => 0
  | r :: l => nodesL r.ps + wt l
theorem part_wt {K : Kn} {a : Nat} {y : ByteArray} {r x : Rw} (hx : part K a y r = some x) : nodesL x.ps ≤ nodesL r.ps ∧ ∀ p, r.ps[a]? = some p → p.f = 4 → nodesL x.ps + 1 ≤ nodesL r.ps := by
  unfold part at hx
  split at hx
  · cases hx
  · rename_i p hp
    have hs := nodes_split hp
    have hn := nodes_eq p
    split at hx
    · rename_i ho
      injection hx with hx; subst hx
      refine ⟨by simp only [nodesL_app, nodes_wild]; omega, fun q hq h4 => ?_⟩
      rw [hp] at hq; injection hq with hq; subst hq
      simp [Pt.opn, h4] at ho
    · split at hx
      · injection hx with hx; subst hx
        refine ⟨by simp only [nodesL_app]; omega, fun q hq h4 => ?_⟩
        rw [hp] at hq; injection hq with hq; subst hq
        rw [if_pos (.inr h4)] at hn
        simp only [nodesL_app]; omega
      · cases hx
theorem parts_wt (K : Kn) (a : Nat) (y : ByteArray) : ∀ l : List Rw, wt (parts K a y l) ≤ wt l ∧ ((∃ r ∈ l, ∃ p, r.ps[a]? = some p ∧ p.f = 4) → wt (parts K a y l) + 1 ≤ wt l)
  | [] => ⟨Nat.le_refl _, fun ⟨r, hr, _⟩ => by simp at hr⟩
  | r :: l => by
    obtain ⟨h1, h2⟩ := parts_wt K a y l
    unfold parts at h1 h2 ⊢
    cases hx : part K a y r with
    | none =>
      rw [List.filterMap_cons_none hx]
      simp only [wt]
      refine ⟨by omega, fun ⟨r', hr, p, hp, h4⟩ => ?_⟩
      rcases List.mem_cons.1 hr with rfl | hr
      · have := nodes_split hp
        have hn := nodes_eq p
        rw [if_pos (.inr h4)] at hn
        omega
      · have := h2 ⟨r', hr, p, hp, h4⟩; omega
    | some x =>
      rw [List.filterMap_cons_some hx]
      obtain ⟨k1, k2⟩ := part_wt hx
      simp only [wt]
      refine ⟨by omega, fun ⟨r', hr, p, hp, h4⟩ => ?_⟩
      rcases List.mem_cons.1 hr with rfl | hr
      · have := k2 p hp h4; omega
      · have := h2 ⟨r', hr, p, hp, h4⟩; omega

/-! The constructors of a column. -/
def consT : Nat → List (ByteArray × List Tp)
  | 1 => wsBool
  | 2 => wsL
  | 3 => wsT
  | 4 => wsL
  | _ => []
theorem consT_eq (t : Nat) : (consT t).map (fun q => (q.1, q.2.length)) = (wCons t).map (fun q => (q.1, q.2.length)) := by
  match t with
  | 0 | 1 | 2 | 3 | 4 => rfl
  | n + 5 => rfl
theorem findCons_eq {t : Nat} {s : ByteArray} {fs : List Nat} (h : (s, fs) ∈ wCons t) : findCons s = some (consT t) := by
  match t with
  | 0 => simp [wCons] at h
  | 1 => simp [wCons] at h; rcases h with ⟨rfl, rfl⟩ | ⟨rfl, rfl⟩ <;> decide
  | 2 => simp [wCons] at h; rcases h with ⟨rfl, rfl⟩ | ⟨rfl, rfl⟩ <;> decide
  | 3 => simp [wCons] at h; rcases h with ⟨rfl, rfl⟩ | ⟨rfl, rfl⟩ | ⟨rfl, rfl⟩ <;> decide
  | 4 => simp [wCons] at h; rcases h with ⟨rfl, rfl⟩ | ⟨rfl, rfl⟩ <;> decide
  | n + 5 => simp [wCons] at h
end Go.Proofs.Ytefdahofpjmnfaa
