/- A part of the proof of a given statement: contracts of functions of the program, under no condition but those that each states. -/
import Derived.Test.YtocglbflmkadeaaDoorL29
set_option linter.unusedSimpArgs false
set_option linter.unusedVariables false
namespace Go.Proofs.YtocglbflmkadeaaDoor
open Go Fp
set_option maxRecDepth 100000
set_option maxHeartbeats 8000000

/-- A type as an application's second, in bytes; as what a function leads to; several, one behind the other. -/
def pA (t : Tp) : List UInt8 := by' (brk (decide (t.form = 4) || decide (t.form = 5)) (P0 t))
def pT (t : Tp) : List UInt8 := by' (brk (decide (t.form = 5)) (P0 t))
def pJ : List Tp → List UInt8
  | [] => []
  | [t] => pA t
  | t :: u :: l => pA t ++ 32 :: pJ (u :: l)
def sp : Tp → List Tp
  | .app x b => if isFun (.app x b) = true then [.app x b] else sp x ++ [b]
  | t => [t]
def fo : List Tp → Tp
  | [] => .no
  | h :: l => l.foldl .app h

theorem sp_ne (t : Tp) : sp t ≠ [] := by
  cases t with
  | app x b => simp only [sp]; split <;> simp
  | _ => simp [sp]
theorem fo_snoc {l : List Tp} (h : l ≠ []) (b : Tp) : fo (l ++ [b]) = .app (fo l) b := by
  cases l with
  | nil => exact absurd rfl h
  | cons t l => simp [fo]
theorem fo_sp (t : Tp) : fo (sp t) = t := by
  induction t with
  | app x b ihx _ =>
    simp only [sp]
    split
    · rfl
    · rw [fo_snoc (sp_ne x), ihx]
  | _ => rfl
theorem pJ_cons (t : Tp) {l : List Tp} (h : l ≠ []) : pJ (t :: l) = pA t ++ 32 :: pJ l := by
  cases l with
  | nil => exact absurd rfl h
  | cons u l => rfl
theorem pJ_snoc (b : Tp) : ∀ {l : List Tp}, l ≠ [] → pJ (l ++ [b]) = pJ l ++ 32 :: pA b
  | [], h => absurd rfl h
  | [t], _ => rfl
  | t :: u :: l, _ => by
    have := pJ_snoc b (l := u :: l) (by simp)
    show pJ (t :: ((u :: l) ++ [b])) = _
    rw [pJ_cons t (by simp), this, pJ_cons t (by simp), List.append_assoc]; rfl

theorem by_brk (b : Bool) (s : ByteArray) : by' (brk b s) = if b then 40 :: (by' s ++ [41]) else by' s := by
  cases b
  · rfl
  · rw [brk_t, by_app, by_app]; simp [by']

theorem pJ_sp (t : Tp) : pJ (sp t) = by' (brk (isFun t || decide (t.form = 5)) (P0 t)) := by
  induction t with
  | app x b ihx _ =>
    by_cases hf : isFun (.app x b) = true
    · simp only [sp, if_pos hf, pJ, pA, hf]; rfl
    · have hf' : isFun (.app x b) = false := by simpa using hf
      simp only [sp, if_neg hf]
      rw [pJ_snoc b (sp_ne x), ihx, hf']
      show _ = by' (pr decI (.app x b) 0)
      rw [pr_app decI hf', pr_12 decI x 2 (.inr rfl), pr_3]
      show _ = by' ((_ ++ _) ++ _)
      rw [by_app, by_app]
      simp [by', pA]
  | _ => rfl

theorem pT_S {t : Tp} (h : isFun t = false) : pT t = pJ (sp t) := by rw [pJ_sp, h]; rfl
theorem pT_F (a b : Tp) : pT (.app (.app (.con arrow) a) b) = pJ (sp a) ++ 32 :: 45 :: 62 :: 32 :: pT b := by
  rw [pJ_sp]
  show by' (pr decI _ 0) = _
  rw [pr_fun, pr_12 decI a 1 (.inl rfl), pr_01]
  show by' ((_ ++ _) ++ _) = _
  rw [by_app, by_app]
  simp [by', pT]

/-- Behind a type stands nothing, or a bracket. -/
def E0 (r : List UInt8) : Prop := r = [] ∨ ∃ l, r = 41 :: l
def EA (r : List UInt8) : Prop := r = [] ∨ (∃ l, r = 41 :: l) ∨ ∃ l, r = 32 :: l
def EJ (r : List UInt8) : Prop := r = [] ∨ (∃ l, r = 41 :: l) ∨ ∃ l, r = 32 :: 45 :: l
theorem E0.a {r : List UInt8} (h : E0 r) : EA r := h.imp id .inl
theorem E0.j {r : List UInt8} (h : E0 r) : EJ r := h.imp id .inl
theorem EJ.a {r : List UInt8} (h : EJ r) : EA r := by
  rcases h with h | h | ⟨l, h⟩
  · exact .inl h
  · exact .inr (.inl h)
  · exact .inr (.inr ⟨_, h⟩)
theorem EA.ends {r : List UInt8} (h : EA r) : Ends r := by
  rcases h with rfl | ⟨l, rfl⟩ | ⟨l, rfl⟩
  · exact ends_nil
  · exact ends_cons (by decide)
  · exact ends_cons (by decide)

theorem small4_cases {s : ByteArray} (h : s ∈ small4) : by' s = [97] ∨ by' s = [98] ∨ by' s = [99] ∨ by' s = [120] := by
  unfold small4 at h
  simp at h
  rcases h with rfl | rfl | rfl | rfl <;> simp [by']
theorem small4_tk {s : ByteArray} (h : s ∈ small4) : ∀ c ∈ by' s, tk c = true := by
  rcases small4_cases h with e | e | e | e <;> rw [e] <;> decide

def Hd : List UInt8 := [63, 40, 97, 98, 99, 120, 73, 66, 76, 80, 70]
theorem pA_mt {k : Nat} (h : k < 10) : pA (.mt (k : Int)) = 63 :: by' (dcm k) := by
  show by' (_ ++ decI _) = _
  rw [decI_nat h, by_app]; rfl
theorem pA_var (s : ByteArray) : pA (.var s) = by' s := rfl
theorem pA_con (s : ByteArray) : pA (.con s) = if by' s = [45, 62] then [40, 45, 62, 41] else by' s := by
  show by' (brk (decide (s = arrow)) s) = _
  by_cases h : s = arrow
  · subst h; rfl
  · rw [decide_eq_false h, if_neg (fun e => h (by_ext e))]; rfl
theorem pA_in {t : Tp} (h : t.form = 4 ∨ t.form = 5) : pA t = 40 :: (by' (P0 t) ++ [41]) := by
  unfold pA
  rw [by_brk, if_pos]
  rcases h with h | h
  · rw [decide_eq_true h]; rfl
  · rw [decide_eq_true h, Bool.or_true]

theorem pA_head {t : Tp} (h : good t) : ∃ c l, pA t = c :: l ∧ c ∈ Hd := by
  cases t with
  | no => exact h.elim
  | mt n => obtain ⟨k, rfl, hk⟩ := h; exact ⟨63, _, pA_mt hk, by decide⟩
  | var s => rw [pA_var]; rcases small4_cases h with e | e | e | e <;> rw [e] <;> exact ⟨_, _, rfl, by decide⟩
  | con s => rw [pA_con]; rcases small6_cases h with e | e | e | e | e | e <;> rw [e] <;> exact ⟨_, _, rfl, by decide⟩
  | app a b => exact ⟨40, _, pA_in (.inl rfl), by decide⟩
  | all s a => exact ⟨40, _, pA_in (.inr rfl), by decide⟩
theorem pJ_head : ∀ {l : List Tp}, l ≠ [] → (∀ t ∈ l, good t) → ∃ c m, pJ l = c :: m ∧ c ∈ Hd
  | [], h, _ => absurd rfl h
  | [t], _, h => pA_head (h t (by simp))
  | t :: u :: l, _, h => by
    obtain ⟨c, m, h1, h2⟩ := pA_head (h t (by simp))
    exact ⟨c, m ++ 32 :: pJ (u :: l), by rw [pJ, h1]; rfl, h2⟩
theorem sp_good {t : Tp} (h : good t) : ∀ u ∈ sp t, good u := by
  induction t with
  | app x b ihx _ =>
    intro u hu
    simp only [sp] at hu
    split at hu
    · simp at hu; subst hu; exact h
    · rcases List.mem_append.1 hu with hu | hu
      · exact ihx h.1 u hu
      · simp at hu; subst hu; exact h.2
  | _ => intro u hu; simp [sp] at hu; subst hu; exact h
theorem sp_sz {t : Tp} : ∀ u ∈ sp t, u.sz ≤ t.sz := by
  induction t with
  | app x b ihx _ =>
    intro u hu
    simp only [sp] at hu
    split at hu
    · simp at hu; subst hu; exact Nat.le_refl _
    · rcases List.mem_append.1 hu with hu | hu
      · have := ihx u hu; simp only [Tp.sz]; omega
      · simp at hu; subst hu; simp only [Tp.sz]; omega
  | _ => intro u hu; simp [sp] at hu; subst hu; exact Nat.le_refl _

theorem pT_head {t : Tp} (h : good t) : ∃ c l, pT t = c :: l ∧ c ∈ Hd := by
  by_cases hf : isFun t = true
  · obtain ⟨a, b, rfl⟩ := isFun_shape hf
    obtain ⟨c, m, h1, h2⟩ := pJ_head (sp_ne a) (sp_good h.1.2)
    exact ⟨c, _, by rw [pT_F, h1]; rfl, h2⟩
  · rw [pT_S (by simpa using hf)]
    exact pJ_head (sp_ne t) (sp_good h)

abbrev Rd (f : Tp → List UInt8) (E : List UInt8 → Prop) (t : Tp) : Prop := ∀ (u : Tp) (r q : List UInt8), good u → E r → E q → f t ++ r = f u ++ q → t = u ∧ r = q
abbrev RdP := Rd (fun t => by' (P0 t)) E0

theorem rdA {t : Tp} (ht : good t) (hp : t.form = 4 ∨ t.form = 5 → RdP t) : Rd pA EA t := by
  intro u r q hu hr hq h
  -- what stands in brackets
  have inner : ∀ (t u : Tp) (r q : List UInt8), good u → (t.form = 4 ∨ t.form = 5) → (u.form = 4 ∨ u.form = 5) → RdP t → pA t ++ r = pA u ++ q → t = u ∧ r = q := fun t u r q hu h1 h2 hp h => by
    rw [pA_in h1, pA_in h2] at h
    simp only [List.cons_append, List.cons.injEq, true_and, List.append_assoc] at h
    obtain ⟨e, h3⟩ := hp u (41 :: r) (41 :: q) hu (.inr ⟨_, rfl⟩) (.inr ⟨_, rfl⟩) h
    exact ⟨e, by simpa using h3⟩
  have bare : ∀ (u : Tp) (q l : List UInt8), good u → (u.form = 4 ∨ u.form = 5) → pA u ++ q = 40 :: 45 :: l → False := fun u q l hu h2 h => by
    rw [pA_in h2] at h
    simp only [List.cons_append, List.cons.injEq, true_and, List.append_assoc] at h
    cases u with
    | app a b =>
      have h : pT (.app a b) ++ (41 :: q) = 45 :: l := h
      obtain ⟨c, m, h3, h4⟩ := pT_head hu
      rw [h3] at h
      simp at h
      rw [h.1] at h4
      revert h4; decide
    | all s a =>
      have h : by' (((⟨#[102, 111, 114, 97, 108, 108, 32]⟩ ++ s) ++ ⟨#[46, 32]⟩) ++ P0 a) ++ (41 :: q) = 45 :: l := h
      rw [by_app, by_app, by_app] at h
      simp [by'] at h
    | _ => simp [Tp.form] at h2
  cases t with
  | no => exact ht.elim
  | mt n =>
    obtain ⟨k, rfl, hk⟩ := ht
    rw [pA_mt hk] at h
    cases u with
    | no => exact hu.elim
    | mt m =>
      obtain ⟨j, rfl, hj⟩ := hu
      rw [pA_mt hj] at h
      simp only [List.cons_append, List.cons.injEq, true_and] at h
      obtain ⟨h1, h2⟩ := word (dcm_tk _) (dcm_tk _) hr.ends hq.ends h
      exact ⟨by rw [dcm_inj h1], h2⟩
    | var s => rw [pA_var] at h; rcases small4_cases hu with e | e | e | e <;> simp [e] at h
    | con s => rw [pA_con] at h; rcases small6_cases hu with e | e | e | e | e | e <;> simp [e] at h
    | app a b => rw [pA_in (.inl rfl)] at h; simp at h
    | all s a => rw [pA_in (.inr rfl)] at h; simp at h
  | var s =>
    rw [pA_var] at h
    cases u with
    | no => exact hu.elim
    | mt m =>
      obtain ⟨j, rfl, hj⟩ := hu
      rw [pA_mt hj] at h; rcases small4_cases ht with e | e | e | e <;> simp [e] at h
    | var x =>
      rw [pA_var] at h
      obtain ⟨h1, h2⟩ := word (small4_tk ht) (small4_tk hu) hr.ends hq.ends h
      exact ⟨by rw [by_ext h1], h2⟩
    | con x => rw [pA_con] at h; rcases small4_cases ht with e | e | e | e <;> rcases small6_cases hu with e' | e' | e' | e' | e' | e' <;> simp [e, e'] at h
    | app a b => rw [pA_in (.inl rfl)] at h; rcases small4_cases ht with e | e | e | e <;> simp [e] at h
    | all s a => rw [pA_in (.inr rfl)] at h; rcases small4_cases ht with e | e | e | e <;> simp [e] at h
  | con s =>
    rw [pA_con] at h
    have w : ∀ {s : ByteArray}, s ∈ small6 → by' s ≠ [45, 62] → ∀ c ∈ by' s, tk c = true := fun {s} hs h1 => by
      rcases small6_cases hs with e | e | e | e | e | e <;> first | exact absurd e h1 | (rw [e]; decide)
    cases u with
    | no => exact hu.elim
    | mt m =>
      obtain ⟨j, rfl, hj⟩ := hu
      rw [pA_mt hj] at h; rcases small6_cases ht with e | e | e | e | e | e <;> simp [e] at h
    | var x => rw [pA_var] at h; rcases small6_cases ht with e | e | e | e | e | e <;> rcases small4_cases hu with e' | e' | e' | e' <;> simp [e, e'] at h
    | con x =>
      rw [pA_con] at h
      by_cases h1 : by' s = [45, 62]
      · by_cases h2 : by' x = [45, 62]
        · rw [if_pos h1, if_pos h2] at h
          exact ⟨by rw [by_ext (h1.trans h2.symm)], by simpa using h⟩
        · rw [if_pos h1, if_neg h2] at h
          rcases small6_cases hu with e | e | e | e | e | e <;> first | exact absurd e h2 | (simp [e] at h; done)
      · by_cases h2 : by' x = [45, 62]
        · rw [if_neg h1, if_pos h2] at h
          rcases small6_cases ht with e | e | e | e | e | e <;> first | exact absurd e h1 | (simp [e] at h; done)
        · rw [if_neg h1, if_neg h2] at h
          obtain ⟨h3, h4⟩ := word (w ht h1) (w hu h2) hr.ends hq.ends h
          exact ⟨by rw [by_ext h3], h4⟩
    | app a b =>
      by_cases h1 : by' s = [45, 62]
      · rw [if_pos h1] at h; exact (bare _ _ _ hu (.inl rfl) h.symm).elim
      · rw [if_neg h1, pA_in (.inl rfl)] at h
        rcases small6_cases ht with e | e | e | e | e | e <;> first | exact absurd e h1 | (simp [e] at h; done)
    | all y a =>
      by_cases h1 : by' s = [45, 62]
      · rw [if_pos h1] at h; exact (bare _ _ _ hu (.inr rfl) h.symm).elim
      · rw [if_neg h1, pA_in (.inr rfl)] at h
        rcases small6_cases ht with e | e | e | e | e | e <;> first | exact absurd e h1 | (simp [e] at h; done)
  | app c d =>
    have hp := hp (.inl rfl)
    cases u with
    | no => exact hu.elim
    | mt m => obtain ⟨j, rfl, hj⟩ := hu; rw [pA_mt hj, pA_in (.inl rfl)] at h; simp at h
    | var s => rw [pA_in (.inl rfl), pA_var] at h; rcases small4_cases hu with e | e | e | e <;> simp [e] at h
    | con s =>
      rw [pA_con] at h
      by_cases h1 : by' s = [45, 62]
      · rw [if_pos h1] at h; exact (bare _ _ _ ht (.inl rfl) h).elim
      · rw [if_neg h1, pA_in (.inl rfl)] at h
        rcases small6_cases hu with e | e | e | e | e | e <;> first | exact absurd e h1 | (simp [e] at h; done)
    | app a b => exact inner _ _ _ _ hu (.inl rfl) (.inl rfl) hp h
    | all s a => exact inner _ _ _ _ hu (.inl rfl) (.inr rfl) hp h
  | all c d =>
    have hp := hp (.inr rfl)
    cases u with
    | no => exact hu.elim
    | mt m => obtain ⟨j, rfl, hj⟩ := hu; rw [pA_mt hj, pA_in (.inr rfl)] at h; simp at h
    | var s => rw [pA_in (.inr rfl), pA_var] at h; rcases small4_cases hu with e | e | e | e <;> simp [e] at h
    | con s =>
      rw [pA_con] at h
      by_cases h1 : by' s = [45, 62]
      · rw [if_pos h1] at h; exact (bare _ _ _ ht (.inr rfl) h).elim
      · rw [if_neg h1, pA_in (.inr rfl)] at h
        rcases small6_cases hu with e | e | e | e | e | e <;> first | exact absurd e h1 | (simp [e] at h; done)
    | app a b => exact inner _ _ _ _ hu (.inr rfl) (.inl rfl) hp h
    | all s a => exact inner _ _ _ _ hu (.inr rfl) (.inr rfl) hp h

theorem rdJ : ∀ {l m : List Tp} {r q : List UInt8}, l ≠ [] → m ≠ [] → (∀ t ∈ l, Rd pA EA t) → (∀ t ∈ l, good t) → (∀ t ∈ m, good t) → EJ r → EJ q → pJ l ++ r = pJ m ++ q → l = m ∧ r = q
  | [], _, _, _, h, _, _, _, _, _, _, _ => absurd rfl h
  | _, [], _, _, _, h, _, _, _, _, _, _ => absurd rfl h
  | [t], [u], r, q, _, _, hl, _, hm, hr, hq, h => by
    obtain ⟨rfl, h2⟩ := hl t (by simp) u r q (hm u (by simp)) hr.a hq.a h
    exact ⟨rfl, h2⟩
  | [t], u :: v :: m, r, q, _, _, hl, _, hm, hr, hq, h => by
    rw [pJ_cons u (by simp), List.append_assoc] at h
    obtain ⟨rfl, h2⟩ := hl t (by simp) u r _ (hm u (by simp)) hr.a (.inr (.inr ⟨_, rfl⟩)) h
    obtain ⟨c, w, h3, h4⟩ := pJ_head (l := v :: m) (by simp) (fun x hx => hm x (List.mem_cons_of_mem _ hx))
    rw [h3] at h2
    rcases hr with rfl | ⟨l, rfl⟩ | ⟨l, rfl⟩
    · simp at h2
    · simp at h2
    · simp at h2
      rw [← h2.1] at h4
      exact absurd h4 (by decide)
  | t :: v :: l, [u], r, q, _, _, hl, hg, hm, hr, hq, h => by
    rw [pJ_cons t (by simp), List.append_assoc] at h
    obtain ⟨rfl, h2⟩ := hl t (by simp) u _ q (hm u (by simp)) (.inr (.inr ⟨_, rfl⟩)) hq.a h
    obtain ⟨c, w, h3, h4⟩ := pJ_head (l := v :: l) (by simp) (fun x hx => hg x (List.mem_cons_of_mem _ hx))
    rw [h3] at h2
    rcases hq with rfl | ⟨l, rfl⟩ | ⟨l, rfl⟩
    · simp at h2
    · simp at h2
    · simp at h2
      rw [h2.1] at h4
      exact absurd h4 (by decide)
  | t :: v :: l, u :: w :: m, r, q, _, _, hl, hg, hm, hr, hq, h => by
    rw [pJ_cons t (by simp), pJ_cons u (by simp), List.append_assoc, List.append_assoc] at h
    obtain ⟨rfl, h2⟩ := hl t (by simp) u _ _ (hm u (by simp)) (.inr (.inr ⟨_, rfl⟩)) (.inr (.inr ⟨_, rfl⟩)) h
    simp only [List.cons_append, List.cons.injEq, true_and] at h2
    obtain ⟨e, h3⟩ := rdJ (l := v :: l) (m := w :: m) (by simp) (by simp) (fun x hx => hl x (List.mem_cons_of_mem _ hx)) (fun x hx => hg x (List.mem_cons_of_mem _ hx)) (fun x hx => hm x (List.mem_cons_of_mem _ hx)) hr hq h2
    exact ⟨by rw [e], h3⟩
end Go.Proofs.YtocglbflmkadeaaDoor
