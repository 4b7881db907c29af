/- A part of the proof of a given statement: contracts of functions of the program, under no condition but those that each states. -/
import Derived.Test.YtocglbflmkadeaaDoorL16
set_option linter.unusedSimpArgs false
set_option linter.unusedVariables false
namespace Go.Proofs.YtocglbflmkadeaaDoor
open Go Fp
set_option maxRecDepth 100000
set_option maxHeartbeats 4000000

abbrev Env' := List (ByteArray × Tp)

/-- What is put for a name: the first. -/
def look (x : ByteArray) : Env' → Option Tp
  | [] => none
  | (s, t) :: r => if s = x then some t else look x r
/-- What is put within a TAll. -/
def kept (s : ByteArray) (own : List ByteArray) (ps : Env') : Env' := ps.filter fun p => decide (p.1 ≠ s) && memb p.1 own
/-- What is free in what is put. -/
def caught (ps : Env') : List ByteArray := ps.flatMap fun p => fv p.2

/-- Types in the place of variables. -/
noncomputable def sub : Tp → Env' → Tp
  | .var x, ps => (look x ps).getD (.var x)
  | .app a b, ps => .app (sub a ps) (sub b ps)
  | .all s a, ps => if memb s (caught (kept s (fv a) ps)) then .all (lett (ff (caught (kept s (fv a) ps) ++ fv a))) (sub a (kept s (fv a) ps ++ [(s, .var (lett (ff (caught (kept s (fv a) ps) ++ fv a))))]))
      else .all s (sub a (kept s (fv a) ps))
  | t, _ => t

def LowT (K : Nat) : Tp → Prop
  | .app a b => LowT K a ∧ LowT K b
  | .all s a => Low K s ∧ LowT K a
  | .var s => Low K s
  | _ => True
theorem LowT.mono {K L : Nat} : ∀ {t : Tp}, LowT K t → K ≤ L → LowT L t
  | .app _ _, h, hl => ⟨LowT.mono h.1 hl, LowT.mono h.2 hl⟩
  | .all _ _, h, hl => ⟨Low.mono h.1 hl, LowT.mono h.2 hl⟩
  | .var _, h, hl => Low.mono h hl
  | .con _, _, _ => trivial
  | .mt _, _, _ => trivial
  | .no, _, _ => trivial

/-- How deep TAlls stand. -/
def dp : Tp → Nat
  | .app a b => max (dp a) (dp b)
  | .all _ a => dp a + 1
  | _ => 0
theorem dp_sz (t : Tp) : dp t ≤ t.sz := by
  induction t with
  | app a b iha ihb => simp only [dp, Tp.sz]; omega
  | all s a ih => simp only [dp, Tp.sz]; omega
  | _ => simp [dp]

theorem fv_low {K : Nat} {t : Tp} (h : LowT K t) : ∀ s ∈ fv t, Low K s := by
  induction t with
  | var x => intro s hs; simp [fv] at hs; subst hs; exact h
  | app a b iha ihb =>
    intro s hs
    simp only [fv] at hs
    rcases mem_insAll.1 hs with h1 | ⟨h1, _⟩
    · rcases mem_insAll.1 h1 with h2 | ⟨h2, _⟩
      · simp at h2
      · exact iha h.1 s h2
    · exact ihb h.2 s h1
  | all x a ih =>
    intro s hs
    simp only [fv] at hs
    rcases mem_insAll.1 hs with h1 | ⟨h1, _⟩
    · simp at h1
    · exact ih h.2 s h1
  | _ => intro s hs; simp [fv] at hs

theorem look_mem {x : ByteArray} {ps : Env'} {t : Tp} (h : look x ps = some t) : (x, t) ∈ ps := by
  induction ps with
  | nil => cases h
  | cons p r ih =>
    obtain ⟨s, u⟩ := p
    simp only [look] at h
    split at h
    · rename_i e; subst e; injection h with h; subst h; simp
    · exact List.mem_cons_of_mem _ (ih h)

theorem ixI_cons {α : Type} [DecidableEq α] {s x : α} {l : List α} (h : s ≠ x) (hm : x ∈ l) : ixI (s :: l) x = ixI l x + 1 := by
  rw [ixI, ixI, if_pos hm, if_pos (List.mem_cons_of_mem _ hm), List.idxOf_cons, show (s == x) = false from beq_eq_false_iff_ne.2 h]
  rfl

theorem look_ix {x : ByteArray} : ∀ {ps : Env'}, (look x ps = none ∧ x ∉ ps.map (·.1)) ∨ (∃ k : Nat, ∃ h : k < ps.length, ixI (ps.map (·.1)) x = (k : Nat) ∧ look x ps = some ps[k].2)
  | [] => .inl ⟨rfl, by simp⟩
  | (s, t) :: r => by
    by_cases hs : s = x
    · subst hs
      exact .inr ⟨0, by simp, by simp [ixI], by simp [look]⟩
    · rcases look_ix (x := x) (ps := r) with ⟨h1, h2⟩ | ⟨k, hk, h1, h2⟩
      · exact .inl ⟨by simp [look, hs, h1], fun hm => by rcases List.mem_cons.1 hm with e | e; exact hs e.symm; exact h2 e⟩
      · refine .inr ⟨k + 1, by simpa using hk, ?_, by simp [look, hs, h2]⟩
        have hm : x ∈ r.map (·.1) := by
          by_cases hm : x ∈ r.map (·.1)
          · exact hm
          · rw [ixI_no hm] at h1; omega
        show ixI (s :: r.map (·.1)) x = _
        rw [ixI_cons hs hm, h1]; rfl

/-- What must hold for the words to stay among the first names. -/
structure Fit (K : Nat) (t : Tp) (ps : Env') : Prop where
  low : LowT K t
  lows : ∀ p ∈ ps, LowT K p.2
  room : K + dp t < 2600
  many : ps.length + dp t < 5000
  sz : t.sz < 1000000
  szs : ∀ p ∈ ps, p.2.sz < 1000000

theorem kept_mem {s : ByteArray} {own : List ByteArray} {ps : Env'} {p : ByteArray × Tp} (h : p ∈ kept s own ps) : p ∈ ps := (List.mem_filter.1 h).1
theorem kept_length (s : ByteArray) (own : List ByteArray) (ps : Env') : (kept s own ps).length ≤ ps.length := List.length_filter_le _ _
theorem caught_low {K : Nat} {ps : Env'} (h : ∀ p ∈ ps, LowT K p.2) : ∀ s ∈ caught ps, Low K s := fun s hs => by
  obtain ⟨p, hp, hs⟩ := List.mem_flatMap.1 hs
  exact fv_low (h p hp) s hs
theorem caught_length {K : Nat} : ∀ {ps : Env'}, (∀ p ∈ ps, LowT K p.2) → (caught ps).length ≤ K * ps.length
  | [], _ => by simp [caught]
  | p :: r, h => by
    have h1 := caught_length (ps := r) (fun q hq => h q (by simp [hq]))
    have h2 := low_len (fv_nodup p.2) (fv_low (h p (by simp)))
    have : caught (p :: r) = fv p.2 ++ caught r := rfl
    rw [this, List.length_append, List.length_cons, Nat.mul_succ]
    omega

theorem Fit.app {K : Nat} {a b : Tp} {ps : Env'} (h : Fit K (.app a b) ps) : Fit K a ps ∧ Fit K b ps := by
  obtain ⟨h1, h2, h3, h4, h5, h6⟩ := h
  simp only [dp, Tp.sz] at h3 h4 h5
  exact ⟨⟨h1.1, h2, by omega, by omega, by omega, h6⟩, ⟨h1.2, h2, by omega, by omega, by omega, h6⟩⟩
theorem Fit.all0 {K : Nat} {a : Tp} {s : ByteArray} {ps : Env'} (h : Fit K (.all s a) ps) : Fit K a (kept s (fv a) ps) := by
  obtain ⟨h1, h2, h3, h4, h5, h6⟩ := h
  simp only [dp, Tp.sz] at h3 h4 h5
  have := kept_length s (fv a) ps
  exact ⟨h1.2, fun p hp => h2 p (kept_mem hp), by omega, by omega, by omega, fun p hp => h6 p (kept_mem hp)⟩
theorem Fit.all1 {K : Nat} {a : Tp} {s : ByteArray} {ps : Env'} (h : Fit K (.all s a) ps) : ff (caught (kept s (fv a) ps) ++ fv a) ≤ K ∧ Fit (K + 1) a (kept s (fv a) ps ++ [(s, .var (lett (ff (caught (kept s (fv a) ps) ++ fv a))))]) := by
  have h0 := h.all0
  have hff : ff (caught (kept s (fv a) ps) ++ fv a) ≤ K := ff_low fun x hx => by
    rcases List.mem_append.1 hx with hx | hx
    · exact caught_low h0.lows x hx
    · exact fv_low h0.low x hx
  refine ⟨hff, ?_⟩
  obtain ⟨h1, h2, h3, h4, h5, h6⟩ := h
  simp only [dp, Tp.sz] at h3 h4 h5
  have := kept_length s (fv a) ps
  refine ⟨h1.2.mono (by omega), fun p hp => ?_, by omega, by simp; omega, by omega, fun p hp => ?_⟩
  · rcases List.mem_append.1 hp with hp | hp
    · exact (h2 p (kept_mem hp)).mono (by omega)
    · simp at hp; subst hp; exact ⟨_, by omega, rfl⟩
  · rcases List.mem_append.1 hp with hp | hp
    · exact h6 p (kept_mem hp)
    · simp at hp; subst hp; simp [Tp.sz]
end Go.Proofs.YtocglbflmkadeaaDoor
