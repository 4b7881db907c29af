/- A part of the proof of a given statement: contracts of functions of the program, under no condition but those that each states. -/
import Derived.Test.YtefdahofpjmnfaaL11
set_option linter.unusedSimpArgs false
set_option linter.unusedVariables false
namespace Go.Proofs.Ytefdahofpjmnfaa
open Go Fp
set_option maxRecDepth 10000
set_option maxHeartbeats 4000000

theorem ty_con {t : Nat} {p : Pt} (h : TyP t p) (hf : p.f = 4) : ∃ fs, (p.s, fs) ∈ wCons t ∧ TyPs fs p.k := by
  cases h with
  | any _ _ h => omega
  | int _ h => omega
  | con _ _ fs _ hs hl hk => exact ⟨fs, hs, TyPs.of hl hk⟩
theorem ty_int {t : Nat} {p : Pt} (h : TyP t p) (hf : p.f = 3) : t = 0 ∧ p.k = [] ∧ 0 ≤ p.n ∧ p.n < 1000 := by
  cases h with
  | any _ _ h => omega
  | int _ h hk hn => exact ⟨rfl, hk, hn⟩
  | con _ _ fs hf' => omega

theorem colCons_ty {cs : List Nat} {a t : Nat} (ha : cs[a]? = some t) : ∀ {l : List Rw}, (∀ r ∈ l, TyPs cs r.ps) →
    (colCons a l = none ∧ ∀ r ∈ l, ∀ p, r.ps[a]? = some p → p.f ≠ 4) ∨ (colCons a l = some (consT t) ∧ 0 < t ∧ t < 5 ∧ ∃ r ∈ l, ∃ p, r.ps[a]? = some p ∧ p.f = 4)
  | [], _ => .inl ⟨rfl, fun r hr => by simp at hr⟩
  | r :: l, h => by
    obtain ⟨p, hp, ht⟩ := (h r (by simp)).get ha
    have ih := colCons_ty ha (l := l) (fun r hr => h r (by simp [hr]))
    unfold colCons at ih ⊢
    by_cases h4 : p.f = 4
    · obtain ⟨fs, hs, _⟩ := ty_con ht h4
      have h0 := (wCons_fs hs).2.2
      refine .inr ⟨?_, h0.1, h0.2, r, by simp, p, hp, h4⟩
      have : rowCons a r = some (consT t) := by unfold rowCons; rw [hp]; simp only [if_pos h4, findCons_eq hs]
      simp [List.findSome?, this]
    · have : rowCons a r = none := by unfold rowCons; rw [hp]; simp only [if_neg h4]
      simp only [List.findSome?, this]
      rcases ih with ⟨k1, k2⟩ | ⟨k1, k2, k3, r', k4, k5⟩
      · refine .inl ⟨k1, fun r' hr' p' hp' => ?_⟩
        rcases List.mem_cons.1 hr' with rfl | hr'
        · rw [hp] at hp'; injection hp' with hp'; subst hp'; exact h4
        · exact k2 r' hr' p' hp'
      · exact .inr ⟨k1, k2, k3, r', by simp [k4], k5⟩

theorem ints_mem {cs : List Nat} {a t : Nat} (ha : cs[a]? = some t) : ∀ {l : List Rw} {out : List Int}, (∀ r ∈ l, TyPs cs r.ps) → (∀ x ∈ out, t = 0 ∧ 0 ≤ x ∧ x < 1000) → ∀ x ∈ l.foldl (intStep a) out, t = 0 ∧ 0 ≤ x ∧ x < 1000
  | [], out, _, h => h
  | r :: l, out, hl, h => by
    refine ints_mem ha (l := l) (fun r hr => hl r (by simp [hr])) fun x hx => ?_
    unfold intStep at hx
    split at hx
    · rename_i p hp
      split at hx
      · rename_i hc
        rcases List.mem_append.1 hx with hx | hx
        · exact h x hx
        · simp at hx; subst hx
          obtain ⟨q, hq, hty⟩ := (hl r (by simp)).get ha
          rw [hp] at hq; injection hq with hq; subst hq
          obtain ⟨k1, k2, k3⟩ := ty_int hty hc.1
          exact ⟨k1, k3⟩
      · exact h x hx
    · exact h x hx

/-- What stands for the integers of a column: one above the greatest. -/
def ownOf (l : List Int) : Pt := if l = [] then wildP else intP (l.foldl max 0 + 1)
theorem max_snoc (l : List Int) (x : Int) : (l ++ [x]).foldl max 0 = max (l.foldl max 0) x := by rw [List.foldl_append]; rfl
theorem max_bd : ∀ (l : List Int) (b : Int), (∀ x ∈ l, x < 1000) → b < 1000 → 0 ≤ b → l.foldl max b < 1000 ∧ 0 ≤ l.foldl max b
  | [], b, _, h, k => ⟨h, k⟩
  | x :: l, b, h, hb, h0 => by
    have := h x (by simp)
    exact max_bd l (max b x) (fun y hy => h y (by simp [hy])) (by omega) (by omega)

/-- What no row takes. -/
def miss : Nat → List Rw → Nat → Option (List Pt)
  | 0, _, _ => none
  | _ + 1, l, 0 => match l with
    | [] => some []
    | _ :: _ => none
  | n + 1, l, c + 1 => match colCons 0 l with
    | some ks => ks.findSome? fun q => (miss n (parts (.con q.1 q.2.length) 0 .empty l) (q.2.length + c)).map fun m => conP q.1 (m.take q.2.length) :: m.drop q.2.length
    | none => match miss n (parts .none 0 .empty l) c with
      | some m => some (ownOf (intsOf 0 l) :: m)
      | none => (intsOf 0 l).findSome? fun x => (miss n (parts (.int x) 0 .empty l) c).map fun m => intP x :: m

theorem miss_len : ∀ (n : Nat) (l : List Rw) (c : Nat) (m : List Pt), miss n l c = some m → m.length = c
  | 0, _, _, _, h => by simp [miss] at h
  | n + 1, l, 0, m, h => by
    cases l with
    | nil => simp [miss] at h; subst h; rfl
    | cons r l => simp [miss] at h
  | n + 1, l, c + 1, m, h => by
    unfold miss at h
    split at h
    · obtain ⟨q, _, hq⟩ := List.exists_of_findSome?_eq_some h
      obtain ⟨m', hm, rfl⟩ := Option.map_eq_some_iff.1 hq
      have := miss_len n _ _ _ hm
      simp; omega
    · split at h
      · rename_i m' hm
        injection h with h; subst h
        have := miss_len n _ _ _ hm
        simp; omega
      · obtain ⟨q, _, hq⟩ := List.exists_of_findSome?_eq_some h
        obtain ⟨m', hm, rfl⟩ := Option.map_eq_some_iff.1 hq
        have := miss_len n _ _ _ hm
        simp; omega

def missOr : Option (List Pt) → AV
  | some m => .tup [.sl (ePts m), .sb true]
  | none => .tup [.sl [], .sb false]

/-- The rows are of columns of these types, and there is enough. -/
structure RowsTy (cs : List Nat) (n : Nat) (l : List Rw) : Prop where
  row : ∀ r ∈ l, RowTy cs n r
  col : ∀ t ∈ cs, t < 5
  len : l.length < 10000
  fuel : 3 * wt l + cs.length < n
  cap : n < 10000
theorem RowsTy.tys {cs : List Nat} {n : Nat} {l : List Rw} (h : RowsTy cs n l) : ∀ r ∈ l, TyPs cs r.ps := fun r hr => (h.row r hr).ty
theorem RowsTy.ok {cs : List Nat} {t n : Nat} {l : List Rw} (h : RowsTy (t :: cs) n l) : ∀ r ∈ l, colOk 0 r := fun r hr => (h.row r hr).col (t := t) rfl (by have := h.fuel; have := h.cap; omega)
theorem RowsTy.con {cs fs : List Nat} {t n : Nat} {l : List Rw} {s : ByteArray} (h : RowsTy (t :: cs) (n + 1) l) (hs : (s, fs) ∈ wCons t) (h4 : ∃ r ∈ l, ∃ p, r.ps[0]? = some p ∧ p.f = 4) : RowsTy (fs ++ cs) n (parts (.con s fs.length) 0 .empty l) := by
  have hw := (parts_wt (.con s fs.length) 0 .empty l).2 h4
  have hf := wCons_fs hs
  have := h.fuel
  have := parts_le (.con s fs.length) 0 .empty l
  have := h.len
  have := h.cap
  refine ⟨fun r hr => parts_ty h.row (a := 0) (t := t) rfl (.con t s fs hs) r hr, fun u hu => ?_, by omega, by simp at *; omega, by omega⟩
  rcases List.mem_append.1 hu with hu | hu
  · exact hf.2.1 u hu
  · exact h.col u (by simp [hu])
theorem RowsTy.int {cs : List Nat} {t n : Nat} {l : List Rw} {x : Int} (h : RowsTy (t :: cs) (n + 1) l) (ht : t = 0) : RowsTy cs n (parts (.int x) 0 .empty l) := by
  have hw := (parts_wt (.int x) 0 .empty l).1
  have := h.fuel
  have := parts_le (.int x) 0 .empty l
  have := h.len
  have := h.cap
  subst ht
  exact ⟨fun r hr => parts_ty h.row (a := 0) (t := 0) rfl (.int x) r hr, fun u hu => h.col u (by simp [hu]), by omega, by simp at *; omega, by omega⟩
theorem RowsTy.none {cs : List Nat} {t n : Nat} {l : List Rw} (h : RowsTy (t :: cs) (n + 1) l) : RowsTy cs n (parts .none 0 .empty l) := by
  have hw := (parts_wt .none 0 .empty l).1
  have := h.fuel
  have := parts_le .none 0 .empty l
  have := h.len
  have := h.cap
  exact ⟨fun r hr => parts_ty h.row (a := 0) (t := t) rfl (.none t) r hr, fun u hu => h.col u (by simp [hu]), by omega, by simp at *; omega, by omega⟩

/-- A constructor among those of a column, with its fields' types. -/
theorem consT_at {t : Nat} {q : ByteArray × List Tp} (h : q ∈ consT t) : ∃ fs, (q.1, fs) ∈ wCons t ∧ fs.length = q.2.length := by
  have h1 : (q.1, q.2.length) ∈ (consT t).map (fun q => (q.1, q.2.length)) := List.mem_map.2 ⟨q, h, rfl⟩
  rw [consT_eq] at h1
  obtain ⟨p, hp, he⟩ := List.mem_map.1 h1
  injection he with h2 h3
  exact ⟨p.2, by rw [← h2]; exact hp, h3⟩
theorem consT_len (t : Nat) : (consT t).length ≤ 3 := by
  match t with
  | 0 | 1 | 2 | 3 | 4 => decide
  | n + 5 => simp [consT]
end Go.Proofs.Ytefdahofpjmnfaa
