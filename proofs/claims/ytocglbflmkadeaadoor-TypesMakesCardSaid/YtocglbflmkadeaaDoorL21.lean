/- A part of the proof of a given statement: contracts of functions of the program, under no condition but those that each states. -/
import Derived.Test.YtocglbflmkadeaaDoorL20
set_option linter.unusedSimpArgs false
set_option linter.unusedVariables false
namespace Go.Proofs.YtocglbflmkadeaaDoor
open Go Fp
set_option maxRecDepth 100000
set_option maxHeartbeats 8000000

theorem mem_fv_app {a b : Tp} {x : ByteArray} : x ∈ fv (.app a b) ↔ x ∈ fv a ∨ x ∈ fv b := by
  simp only [fv, mem_insAll, no]
  simp
theorem mem_fv_all {s : ByteArray} {a : Tp} {x : ByteArray} : x ∈ fv (.all s a) ↔ x ∈ fv a ∧ x ≠ s := by
  simp only [fv, mem_insAll]
  simp

/-- What a name becomes has this free. -/
def Fo (ps : Env') (y x : ByteArray) : Prop := match look y ps with
  | none => x = y
  | some u => x ∈ fv u

theorem look_none {y : ByteArray} {ps : Env'} (h : y ∉ ps.map (·.1)) : look y ps = none := by
  induction ps with
  | nil => rfl
  | cons p r ih =>
    obtain ⟨s, t⟩ := p
    simp only [List.map_cons, List.mem_cons, not_or] at h
    simp only [look]
    rw [if_neg (fun e => h.1 e.symm)]
    exact ih h.2
theorem look_append {y : ByteArray} {ps qs : Env'} : look y (ps ++ qs) = match look y ps with | none => look y qs | some u => some u := by
  induction ps with
  | nil => rfl
  | cons p r ih =>
    obtain ⟨s, t⟩ := p
    simp only [List.cons_append, look]
    split
    · rfl
    · exact ih
theorem look_kept {s y : ByteArray} {own : List ByteArray} {ps : Env'} (h1 : y ≠ s) (h2 : y ∈ own) : look y (kept s own ps) = look y ps := by
  induction ps with
  | nil => rfl
  | cons p r ih =>
    obtain ⟨n, t⟩ := p
    unfold kept at ih ⊢
    by_cases hn : n = y
    · subst hn
      rw [List.filter_cons, if_pos (by rw [memb_yes h2, decide_eq_true (p := n ≠ s) h1]; rfl)]
      simp [look]
    · rw [List.filter_cons]
      split
      · simp only [look, if_neg hn]; exact ih
      · simp only [look, if_neg hn]; exact ih
theorem look_kept_s {s : ByteArray} {own : List ByteArray} {ps : Env'} : look s (kept s own ps) = none := by
  apply look_none
  intro hm
  obtain ⟨p, hp, e⟩ := List.mem_map.1 hm
  have := (List.mem_filter.1 hp).2
  rw [decide_eq_false (p := p.1 ≠ s) (fun h => h e)] at this
  cases this

/-- What is free behind a substitution. -/
theorem mem_fv_sub (t : Tp) : ∀ (ps : Env') (x : ByteArray), x ∈ fv (sub t ps) ↔ ∃ y, y ∈ fv t ∧ Fo ps y x := by
  induction t with
  | var v =>
    intro ps x
    simp only [sub, fv, List.mem_singleton, exists_eq_left, Fo]
    cases look v ps <;> simp [fv]
  | app a b iha ihb =>
    intro ps x
    simp only [sub, mem_fv_app, iha, ihb]
    constructor
    · rintro (⟨y, h1, h2⟩ | ⟨y, h1, h2⟩)
      · exact ⟨y, .inl h1, h2⟩
      · exact ⟨y, .inr h1, h2⟩
    · rintro ⟨y, h1 | h1, h2⟩
      · exact .inl ⟨y, h1, h2⟩
      · exact .inr ⟨y, h1, h2⟩
  | all s a ih =>
    intro ps x
    obtain ⟨q, hq⟩ : ∃ q, q = kept s (fv a) ps := ⟨_, rfl⟩
    have hl : ∀ y, y ∈ fv a → y ≠ s → look y q = look y ps := fun y h1 h2 => by rw [hq]; exact look_kept h2 h1
    have hs : look s q = none := by rw [hq]; exact look_kept_s
    have hcau : ∀ y u x, look y q = some u → x ∈ fv u → x ∈ caught q := fun y u x h1 h2 => List.mem_flatMap.2 ⟨_, look_mem h1, h2⟩
    simp only [sub, ← hq]
    split
    · obtain ⟨z, hz⟩ : ∃ z, z = lett (ff (caught q ++ fv a)) := ⟨_, rfl⟩
      have hnew : z ∉ caught q ++ fv a := hz ▸ ff_new _
      rw [← hz, mem_fv_all, ih]
      simp only [List.mem_append, not_or] at hnew
      constructor
      · rintro ⟨⟨y, h1, h2⟩, h3⟩
        unfold Fo at h2
        rw [look_append] at h2
        by_cases hy : y = s
        · subst hy
          rw [hs] at h2
          simp [look, fv] at h2
          exact absurd h2 h3
        · refine ⟨y, mem_fv_all.2 ⟨h1, hy⟩, ?_⟩
          unfold Fo
          rw [← hl y h1 hy]
          cases hc : look y q with
          | none => rw [hc] at h2; simpa [look, Ne.symm hy] using h2
          | some u => rw [hc] at h2; exact h2
      · rintro ⟨y, h1, h2⟩
        obtain ⟨h1, hy⟩ := mem_fv_all.1 h1
        unfold Fo at h2
        rw [← hl y h1 hy] at h2
        refine ⟨⟨y, h1, ?_⟩, ?_⟩
        · unfold Fo
          rw [look_append]
          cases hc : look y q with
          | none => rw [hc] at h2; simpa [look, Ne.symm hy] using h2
          | some u => rw [hc] at h2; exact h2
        · rintro rfl
          cases hc : look y q with
          | none => rw [hc] at h2; simp at h2; subst h2; exact hnew.2 h1
          | some u => rw [hc] at h2; exact hnew.1 (hcau y u _ hc h2)
    · rename_i hcap
      have hns : s ∉ caught q := fun h => hcap (memb_yes h)
      rw [mem_fv_all, ih]
      constructor
      · rintro ⟨⟨y, h1, h2⟩, h3⟩
        by_cases hy : y = s
        · subst hy
          unfold Fo at h2
          rw [hs] at h2
          exact absurd h2 h3
        · refine ⟨y, mem_fv_all.2 ⟨h1, hy⟩, ?_⟩
          unfold Fo at h2 ⊢
          rw [← hl y h1 hy]; exact h2
      · rintro ⟨y, h1, h2⟩
        obtain ⟨h1, hy⟩ := mem_fv_all.1 h1
        unfold Fo at h2
        rw [← hl y h1 hy] at h2
        refine ⟨⟨y, h1, h2⟩, ?_⟩
        rintro rfl
        cases hc : look y q with
        | none => rw [hc] at h2; exact hy h2.symm
        | some u => rw [hc] at h2; exact hns (hcau y u _ hc h2)
  | _ => intro ps x; simp [sub, fv]

theorem sub_sz {M : Nat} (hM : 1 ≤ M) (t : Tp) : ∀ ps : Env', (∀ p ∈ ps, p.2.sz ≤ M) → (sub t ps).sz ≤ t.sz * M := by
  induction t with
  | var v =>
    intro ps hp
    simp only [sub, Tp.sz, Nat.one_mul]
    cases hl : look v ps with
    | none => exact hM
    | some u => exact hp _ (look_mem hl)
  | app a b iha ihb =>
    intro ps hp
    have h1 := iha ps hp
    have h2 := ihb ps hp
    simp only [sub, Tp.sz, Nat.add_mul, Nat.one_mul]; omega
  | all s a ih =>
    intro ps hp
    simp only [sub]
    split
    · have h1 := ih (kept s (fv a) ps ++ [(s, .var (lett (ff (caught (kept s (fv a) ps) ++ fv a))))]) (fun p h => by
        rcases List.mem_append.1 h with h | h
        · exact hp p (kept_mem h)
        · simp at h; subst h; exact hM)
      simp only [Tp.sz, Nat.add_mul, Nat.one_mul]; omega
    · have h1 := ih (kept s (fv a) ps) (fun p h => hp p (kept_mem h))
      simp only [Tp.sz, Nat.add_mul, Nat.one_mul]; omega
  | _ => intro ps hp; simp only [sub, Tp.sz, Nat.one_mul]; exact hM

/-- Those whose names are free. -/
def asked (own : List ByteArray) (ps : Env') : Env' := ps.filter fun p => memb p.1 own
def rest (own : List ByteArray) (ps : Env') : List ByteArray := own.filter fun x => !memb x (ps.map (·.1))

theorem look_nodup {ps : Env'} (h : (ps.map (·.1)).Nodup) {p : ByteArray × Tp} (hp : p ∈ ps) : look p.1 ps = some p.2 := by
  induction ps with
  | nil => cases hp
  | cons q r ih =>
    obtain ⟨s, t⟩ := q
    simp only [List.map_cons, List.nodup_cons] at h
    rcases List.mem_cons.1 hp with rfl | hp
    · simp [look]
    · simp only [look]
      rw [if_neg (fun e : s = p.1 => h.1 (by rw [e]; exact List.mem_map_of_mem hp)), ih h.2 hp]

theorem catches (t : Tp) (ps : Env') (h : (ps.map (·.1)).Nodup) (x : ByteArray) : x ∈ rest (fv t) ps ++ caught (asked (fv t) ps) ↔ x ∈ fv (sub t ps) := by
  rw [mem_fv_sub, List.mem_append]
  constructor
  · rintro (h1 | h1)
    · obtain ⟨h1, h2⟩ := List.mem_filter.1 h1
      have h3 : x ∉ ps.map (·.1) := fun hm => by rw [memb_yes hm] at h2; cases h2
      exact ⟨x, h1, by unfold Fo; rw [look_none h3]⟩
    · obtain ⟨p, h1, h2⟩ := List.mem_flatMap.1 h1
      obtain ⟨h1, h3⟩ := List.mem_filter.1 h1
      exact ⟨p.1, memb_iff.1 h3, by unfold Fo; rw [look_nodup h h1]; exact h2⟩
  · rintro ⟨y, h1, h2⟩
    unfold Fo at h2
    cases hl : look y ps with
    | none =>
      rw [hl] at h2
      simp only at h2
      subst h2
      refine .inl (List.mem_filter.2 ⟨h1, ?_⟩)
      rw [memb_no]; rfl
      intro hm
      obtain ⟨p, hp, rfl⟩ := List.mem_map.1 hm
      rw [look_nodup h hp] at hl; cases hl
    | some u =>
      rw [hl] at h2
      exact .inr (List.mem_flatMap.2 ⟨(y, u), List.mem_filter.2 ⟨look_mem hl, memb_yes h1⟩, h2⟩)
end Go.Proofs.YtocglbflmkadeaaDoor
