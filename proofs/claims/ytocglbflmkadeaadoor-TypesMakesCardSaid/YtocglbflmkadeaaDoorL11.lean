/- A part of the proof of a given statement: contracts of functions of the program, under no condition but those that each states. -/
import Derived.Test.YtocglbflmkadeaaDoorL10
set_option linter.unusedSimpArgs false
set_option linter.unusedVariables false
namespace Go.Proofs.YtocglbflmkadeaaDoor
open Go Fp
set_option maxRecDepth 100000
set_option maxHeartbeats 4000000

section
variable {α : Type} [DecidableEq α]
/-- One more, unless it is there or barred. -/
def ins (p : α → Bool) (out : List α) (s : α) : List α := if s ∈ out ∨ p s = true then out else out ++ [s]
def insAll (p : α → Bool) (out l : List α) : List α := l.foldl (ins p) out

theorem insAll_nil (p : α → Bool) (out : List α) : insAll p out [] = out := rfl
theorem insAll_cons (p : α → Bool) (out l : List α) (s : α) : insAll p out (s :: l) = insAll p (ins p out s) l := rfl
theorem insAll_append (p : α → Bool) (out l m : List α) : insAll p out (l ++ m) = insAll p (insAll p out l) m := by simp [insAll]
theorem insAll_take {p : α → Bool} {out l : List α} {k : Nat} (h : k < l.length) : insAll p out (l.take (k + 1)) = ins p (insAll p out (l.take k)) l[k] := by
  rw [List.take_succ_eq_append_getElem h, insAll_append]; rfl
theorem ins_sub (p : α → Bool) (out : List α) (s x : α) (h : x ∈ out) : x ∈ ins p out s := by
  unfold ins; split
  · exact h
  · exact List.mem_append_left _ h
theorem insAll_sub (p : α → Bool) (l : List α) : ∀ (out : List α) (x : α), x ∈ out → x ∈ insAll p out l := by
  induction l with
  | nil => exact fun _ _ h => h
  | cons s l ih => exact fun out x h => ih _ x (ins_sub p out s x h)
theorem mem_ins {p : α → Bool} {out : List α} {s x : α} : x ∈ ins p out s ↔ x ∈ out ∨ (x = s ∧ p s = false) := by
  unfold ins; split <;> rename_i h
  · constructor
    · exact .inl
    · rintro (h1 | ⟨rfl, h2⟩)
      · exact h1
      · rcases h with h | h
        · exact h
        · rw [h2] at h; cases h
  · simp only [not_or, Bool.not_eq_true] at h
    simp only [List.mem_append, List.mem_singleton]
    constructor
    · rintro (h1 | rfl)
      · exact .inl h1
      · exact .inr ⟨rfl, h.2⟩
    · rintro (h1 | ⟨rfl, _⟩)
      · exact .inl h1
      · exact .inr rfl
theorem mem_insAll {p : α → Bool} {l : List α} : ∀ {out : List α} {x : α}, x ∈ insAll p out l ↔ x ∈ out ∨ (x ∈ l ∧ p x = false) := by
  induction l with
  | nil => simp [insAll_nil]
  | cons s l ih =>
    intro out x
    rw [insAll_cons, ih, mem_ins]
    simp only [List.mem_cons]
    constructor
    · rintro ((h | ⟨rfl, h⟩) | ⟨h1, h2⟩)
      · exact .inl h
      · exact .inr ⟨.inl rfl, h⟩
      · exact .inr ⟨.inr h1, h2⟩
    · rintro (h | ⟨rfl | h1, h2⟩)
      · exact .inl (.inl h)
      · exact .inl (.inr ⟨rfl, h2⟩)
      · exact .inr ⟨h1, h2⟩
theorem ins_length (p : α → Bool) (out : List α) (s : α) : (ins p out s).length ≤ out.length + 1 := by
  unfold ins; split <;> simp
theorem insAll_length (p : α → Bool) (l : List α) : ∀ out : List α, (insAll p out l).length ≤ out.length + l.length := by
  induction l with
  | nil => intro out; simp [insAll_nil]
  | cons s l ih => intro out; rw [insAll_cons]; have := ih (ins p out s); have := ins_length p out s; simp only [List.length_cons]; omega
theorem ins_nodup {p : α → Bool} {out : List α} {s : α} (h : out.Nodup) : (ins p out s).Nodup := by
  unfold ins; split <;> rename_i q
  · exact h
  · simp only [not_or] at q
    exact List.nodup_append.2 ⟨h, by simp, by rintro a ha b hb rfl; simp at hb; subst hb; exact q.1 ha⟩
theorem insAll_nodup {p : α → Bool} {l : List α} : ∀ {out : List α}, out.Nodup → (insAll p out l).Nodup := by
  induction l with
  | nil => exact id
  | cons s l ih => exact fun h => ih (ins_nodup h)

def no : α → Bool := fun _ => false

theorem insAll_insAll (p q r : α → Bool) (hr : ∀ s, r s = (p s || q s)) (l : List α) : ∀ (out acc : List α), insAll p out (insAll q acc l) = insAll r (insAll p out acc) l := by
  induction l with
  | nil => exact fun _ _ => rfl
  | cons s l ih =>
    intro out acc
    rw [insAll_cons, ih, insAll_cons]
    congr 1
    unfold ins
    by_cases h1 : s ∈ acc
    · rw [if_pos (.inl h1)]
      cases hp : p s
      · rw [if_pos (.inl (mem_insAll.2 (.inr ⟨h1, hp⟩)))]
      · rw [if_pos (.inr (by rw [hr, hp]; rfl))]
    · cases hq : q s
      · rw [if_neg (by simp [h1]), insAll_append]
        show ins p _ s = _
        unfold ins
        rw [hr, hq, Bool.or_false]
      · rw [if_pos (.inr rfl), if_pos (.inr (by rw [hr, hq]; simp))]

theorem insAll_self {l : List α} : ∀ {out : List α}, (out ++ l).Nodup → insAll no out l = out ++ l := by
  induction l with
  | nil => intro out _; simp [insAll_nil]
  | cons s l ih =>
    intro out h
    have hs : s ∉ out := fun hm => by
      have := (List.nodup_append.1 h).2.2 s hm s (by simp)
      exact this rfl
    rw [insAll_cons, ins, if_neg (by simp [hs, no]), ih (by simpa using h)]
    simp
end

/-- The variables that are free, as they come. -/
def fv : Tp → List ByteArray
  | .var s => [s]
  | .app a b => insAll no (insAll no [] (fv a)) (fv b)
  | .all s a => insAll (fun x => decide (x = s)) [] (fv a)
  | _ => []

theorem fv_nodup (t : Tp) : (fv t).Nodup := by
  cases t with
  | var s => simp [fv]
  | app a b => exact insAll_nodup (insAll_nodup List.nodup_nil)
  | all s a => exact insAll_nodup List.nodup_nil
  | _ => exact List.nodup_nil

theorem fv_length (t : Tp) : (fv t).length ≤ t.sz := by
  induction t with
  | app a b iha ihb =>
    have h1 := insAll_length no (fv b) (insAll no [] (fv a))
    have h2 := insAll_length no (fv a) []
    simp only [fv, Tp.sz]; simp at h2; omega
  | all s a ih => have h2 := insAll_length (fun x => decide (x = s)) (fv a) []; simp only [fv, Tp.sz]; simp at h2; omega
  | _ => simp [fv, Tp.sz]

def mv : Tp → List Int
  | .mt n => [n]
  | .app a b => insAll no (insAll no [] (mv a)) (mv b)
  | .all _ a => insAll no [] (mv a)
  | _ => []
theorem mv_nodup (t : Tp) : (mv t).Nodup := by
  cases t with
  | mt s => simp [mv]
  | app a b => exact insAll_nodup (insAll_nodup List.nodup_nil)
  | all s a => exact insAll_nodup List.nodup_nil
  | _ => exact List.nodup_nil
theorem mv_length (t : Tp) : (mv t).length ≤ t.sz := by
  induction t with
  | app a b iha ihb =>
    have h1 := insAll_length no (mv b) (insAll no [] (mv a))
    have h2 := insAll_length no (mv a) []
    simp only [mv, Tp.sz]; simp at h2; omega
  | all s a ih => have h2 := insAll_length no (mv a) []; simp only [mv, Tp.sz]; simp at h2; omega
  | _ => simp [mv, Tp.sz]

/-- What the document collects, behind those that were met. -/
def fr : Tp → List ByteArray → List ByteArray → List ByteArray
  | .var s, g, out => if memb s g || memb s out then out else out ++ [s]
  | .app a b, g, out => fr b g (fr a g out)
  | .all s a, g, out => fr a (g ++ [s]) out
  | _, _, out => out
theorem fr_eq (t : Tp) : ∀ g out, fr t g out = insAll (fun s => memb s g) out (fv t) := by
  induction t with
  | var s =>
    intro g out
    show fr (.var s) g out = ins (fun x => memb x g) out s
    by_cases h1 : s ∈ g <;> by_cases h2 : s ∈ out <;> simp [fr, ins, memb, h1, h2]
  | app a b iha ihb =>
    intro g out
    simp only [fr, fv]
    rw [iha, ihb, insAll_insAll _ no (fun s => memb s g) (by simp [no]), insAll_insAll _ no (fun s => memb s g) (by simp [no])]
    rfl
  | all s a ih =>
    intro g out
    simp only [fr, fv]
    rw [ih, insAll_insAll _ _ (fun x => memb x (g ++ [s])) (fun x => by unfold memb; by_cases h1 : x ∈ g <;> by_cases h2 : x = s <;> simp [h1, h2])]
    rfl
  | _ => exact fun _ _ => rfl
theorem fr_fv (t : Tp) : fr t [] [] = fv t := by
  rw [fr_eq]
  exact insAll_self (l := fv t) (out := []) (by simpa using fv_nodup t)
def mr : Tp → List Int → List Int
  | .mt n, out => if memb n out then out else out ++ [n]
  | .app a b, out => mr b (mr a out)
  | .all _ a, out => mr a out
  | _, out => out
theorem mr_eq (t : Tp) : ∀ out, mr t out = insAll no out (mv t) := by
  induction t with
  | mt s => intro out; show mr (.mt s) out = ins no out s; simp [mr, ins, no, memb]
  | app a b iha ihb =>
    intro out
    simp only [mr, mv]
    rw [iha, ihb, insAll_insAll _ no no (by simp [no]), insAll_insAll _ no no (by simp [no])]
    rfl
  | all s a ih =>
    intro out
    simp only [mr, mv]
    rw [ih, insAll_insAll _ _ no (by simp [no])]
    rfl
  | _ => exact fun _ => rfl
theorem mr_mv (t : Tp) : mr t [] = mv t := by
  rw [mr_eq]
  exact insAll_self (l := mv t) (out := []) (by simpa using mv_nodup t)
end Go.Proofs.YtocglbflmkadeaaDoor
