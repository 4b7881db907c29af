/- A part of the proof of a given statement: contracts of functions of the program, under no condition but those that each states. -/
import Derived.Test.YtocglbflmkadeaaDoorL30
set_option linter.unusedSimpArgs false
set_option linter.unusedVariables false
namespace Go.Proofs.YtocglbflmkadeaaDoor
open Go Fp
set_option maxRecDepth 100000
set_option maxHeartbeats 8000000

abbrev RdT := Rd pT E0

/-- As what a function leads to. -/
theorem rdT {t : Tp} (ht : good t) (ha : ∀ x ∈ sp t, Rd pA EA x) (hf : ∀ a b, t = .app (.app (.con arrow) a) b → (∀ x ∈ sp a, Rd pA EA x) ∧ RdT b) : RdT t := by
  intro u r q hu hr hq h
  have jj : ∀ {t : Tp}, isFun t = false → pT t = pJ (sp t) := fun h => pT_S h
  by_cases h1 : isFun t = true
  · obtain ⟨a, b, rfl⟩ := isFun_shape h1
    obtain ⟨k1, k2⟩ := hf a b rfl
    rw [pT_F, List.append_assoc] at h
    by_cases h2 : isFun u = true
    · obtain ⟨c, d, rfl⟩ := isFun_shape h2
      rw [pT_F, List.append_assoc] at h
      obtain ⟨e, h3⟩ := rdJ (sp_ne a) (sp_ne c) k1 (sp_good ht.1.2) (sp_good hu.1.2) (.inr (.inr ⟨_, rfl⟩)) (.inr (.inr ⟨_, rfl⟩)) h
      have e := congrArg fo e
      rw [fo_sp, fo_sp] at e
      subst e
      have h3 : pT b ++ r = pT d ++ q := by simpa using h3
      obtain ⟨rfl, h4⟩ := k2 d r q hu.2 hr hq h3
      exact ⟨rfl, h4⟩
    · have h2 : isFun u = false := by simpa using h2
      rw [pT_S h2] at h
      obtain ⟨_, h3⟩ := rdJ (sp_ne a) (sp_ne u) k1 (sp_good ht.1.2) (sp_good hu) (.inr (.inr ⟨_, rfl⟩)) hq.j h
      rcases hq with rfl | ⟨l, rfl⟩ <;> simp at h3
  · have h1 : isFun t = false := by simpa using h1
    rw [pT_S h1] at h
    by_cases h2 : isFun u = true
    · obtain ⟨c, d, rfl⟩ := isFun_shape h2
      rw [pT_F, List.append_assoc] at h
      obtain ⟨_, h3⟩ := rdJ (sp_ne t) (sp_ne c) ha (sp_good ht) (sp_good hu.1.2) hr.j (.inr (.inr ⟨_, rfl⟩)) h
      rcases hr with rfl | ⟨l, rfl⟩ <;> simp at h3
    · have h2 : isFun u = false := by simpa using h2
      rw [pT_S h2] at h
      obtain ⟨e, h3⟩ := rdJ (sp_ne t) (sp_ne u) ha (sp_good ht) (sp_good hu) hr.j hq.j h
      have e := congrArg fo e
      rw [fo_sp, fo_sp] at e
      exact ⟨e, h3⟩

theorem pT_P {t : Tp} (h : ¬ t.form = 5) : pT t = by' (P0 t) := by unfold pT; rw [decide_eq_false h]; rfl
theorem P_all (s : ByteArray) (a : Tp) : by' (P0 (.all s a)) = [102, 111, 114, 97, 108, 108, 32] ++ (by' s ++ 46 :: 32 :: by' (P0 a)) := by
  show by' (((⟨#[102, 111, 114, 97, 108, 108, 32]⟩ ++ s) ++ ⟨#[46, 32]⟩) ++ P0 a) = _
  rw [by_app, by_app, by_app]; simp [by']

theorem readP (N : Nat) : ∀ t : Tp, t.sz ≤ N → good t → RdP t ∧ RdT t := by
  induction N with
  | zero => intro t h; have := sz_pos t; omega
  | succ N ih =>
    intro t hs ht
    have ihA : ∀ x : Tp, x.sz ≤ N → good x → Rd pA EA x := fun x h1 h2 => rdA h2 fun _ => (ih x h1 h2).1
    -- a bare type
    have noAll : ∀ (u : Tp) (r q : List UInt8) (s : ByteArray) (a : Tp), good u → pT u ++ q = by' (P0 (.all s a)) ++ r → False := fun u r q s a hu h => by
      obtain ⟨c, l, h1, h2⟩ := pT_head hu
      rw [h1, P_all] at h
      simp at h
      rw [h.1] at h2
      exact absurd h2 (by decide)
    have fin : RdT t → ¬ t.form = 5 → RdP t := fun h1 h5 u r q hu hr hq h => by
      change by' (P0 t) ++ r = by' (P0 u) ++ q at h
      rw [← pT_P h5] at h
      by_cases h6 : u.form = 5
      · obtain ⟨s, a, rfl⟩ := Tp.is_all h6
        exact (noAll t q r s a ht h).elim
      · rw [← pT_P h6] at h
        exact h1 u r q hu hr hq h
    have base : (¬ t.form = 4) → (¬ t.form = 5) → sp t = [t] → RdP t ∧ RdT t := fun h4 h5 h => by
      have h1 : RdT t := rdT ht (by rw [h]; intro x hx; simp at hx; subst hx; exact rdA ht (fun h => h.elim (fun h => absurd h h4) (fun h => absurd h h5))) (fun a b e => absurd (by rw [e]; rfl) h4)
      exact ⟨fin h1 h5, h1⟩
    cases t with
    | no => exact ht.elim
    | mt n => exact base (by simp [Tp.form]) (by simp [Tp.form]) rfl
    | var s => exact base (by simp [Tp.form]) (by simp [Tp.form]) rfl
    | con s => exact base (by simp [Tp.form]) (by simp [Tp.form]) rfl
    | app x b =>
      simp only [Tp.sz] at hs
      have hb := sz_pos b
      have hx := sz_pos x
      have h1 : RdT (.app x b) := by
        by_cases hf : isFun (.app x b) = true
        · obtain ⟨a, c, e⟩ := isFun_shape hf
          injection e with e1 e2
          subst e1; subst e2
          simp only [Tp.sz] at hs
          intro u r q hu hr hq h
          -- the atoms of the whole are not asked
          have k : (∀ y ∈ sp a, Rd pA EA y) ∧ RdT b := ⟨fun y hy => ihA y (by have := sp_sz y hy; omega) (sp_good ht.1.2 y hy), (ih b (by omega) ht.2).2⟩
          rw [pT_F, List.append_assoc] at h
          by_cases h2 : isFun u = true
          · obtain ⟨c, d, rfl⟩ := isFun_shape h2
            rw [pT_F, List.append_assoc] at h
            obtain ⟨e, h3⟩ := rdJ (sp_ne a) (sp_ne c) k.1 (sp_good ht.1.2) (sp_good hu.1.2) (.inr (.inr ⟨_, rfl⟩)) (.inr (.inr ⟨_, rfl⟩)) h
            have e := congrArg fo e
            rw [fo_sp, fo_sp] at e
            subst e
            have h3 : pT b ++ r = pT d ++ q := by simpa using h3
            obtain ⟨rfl, h4⟩ := k.2 d r q hu.2 hr hq h3
            exact ⟨rfl, h4⟩
          · have h2 : isFun u = false := by simpa using h2
            rw [pT_S h2] at h
            obtain ⟨_, h3⟩ := rdJ (sp_ne a) (sp_ne u) k.1 (sp_good ht.1.2) (sp_good hu) (.inr (.inr ⟨_, rfl⟩)) hq.j h
            rcases hq with rfl | ⟨l, rfl⟩ <;> simp at h3
        · refine rdT ht (fun y hy => ?_) (fun a c e => absurd (by rw [e]; rfl) hf)
          simp only [sp, if_neg hf] at hy
          rcases List.mem_append.1 hy with hy | hy
          · exact ihA y (by have := sp_sz y hy; omega) (sp_good ht.1 y hy)
          · simp at hy; subst hy; exact ihA y (by omega) ht.2
      exact ⟨fin h1 (by simp [Tp.form]), h1⟩
    | all s a =>
      simp only [Tp.sz] at hs
      have h1 : RdP (.all s a) := by
        intro u r q hu hr hq h
        by_cases h6 : u.form = 5
        · obtain ⟨x, b, rfl⟩ := Tp.is_all h6
          simp only [P_all, List.append_assoc, List.cons_append, List.nil_append, List.cons.injEq, true_and] at h
          obtain ⟨e1, h2⟩ := word (small4_tk ht.1) (small4_tk hu.1) (ends_cons (by decide)) (ends_cons (by decide)) h
          have h2 : by' (P0 a) ++ r = by' (P0 b) ++ q := by simpa using h2
          obtain ⟨rfl, h3⟩ := (ih a (by omega) ht.2).1 b r q hu.2 hr hq h2
          exact ⟨by rw [by_ext e1], h3⟩
        · simp only at h
          rw [← pT_P h6] at h
          exact (noAll u r q s a hu h.symm).elim
      exact ⟨h1, rdT ht (by intro x hx; simp [sp] at hx; subst hx; exact rdA ht fun _ => h1) (fun a b e => by cases e)⟩

/-- Types of one print are one. -/
theorem print_inj {t u : Tp} (ht : good t) (hu : good u) (h : P0 t = P0 u) : t = u :=
  ((readP t.sz t (Nat.le_refl _) ht).1 u [] [] hu (.inl rfl) (.inl rfl) (by simp only [h])).1

theorem typesPrints_ok {l : List Int} (hl : l.length < 9223372036854775808) (hr : ∀ x ∈ l, InR x) {m : List Int} (hm : m.length < 9223372036854775808) (hmr : ∀ x ∈ m, InR x) :
    ACall Tryd.prog n_fuguelaw04_TypesPrints [.sl (eIs l), .sl (eIs m)] (.sb true) := by
  obtain ⟨a, a1, ag, az⟩ := made_ok hl hr
  obtain ⟨b, b1, bg, bz⟩ := made_ok hm hmr
  have pa := tprint_ok decI_size a (by omega) (good_fine a ag) (good_itoa ag)
  have pb := tprint_ok decI_size b (by omega) (good_fine b bg) (good_itoa bg)
  have qa := rprint_ok a.sz (by omega) a (Nat.le_refl _) ag
  refine acall_of_wc ttok mixed Tryd.func5 rfl (by rfl) (Nat.le_of_ble_eq_true rfl) (by kernel_rfl) ?_
  refine .inl ⟨_, a1, ?_⟩
  refine .inl ⟨_, b1, ?_⟩
  refine .inl ⟨_, pa, ?_⟩
  refine .inl ⟨_, qa, ?_⟩
  refine ⟨fun _ => ?_, fun h => by simp at h⟩
  refine .inl ⟨_, pa, ?_⟩
  refine .inl ⟨_, pb, ?_⟩
  refine ⟨fun h => ?_, fun h => ?_⟩
  · have he : P0 a = P0 b := Classical.byContradiction fun e => by
      have h' : (!decide (P0 a = P0 b)) = false := h
      rw [decide_eq_false e] at h'; cases h'
    have := print_inj ag bg he
    subst this
    have hs := sameT_ok a a (by omega)
    rw [smb_same rfl] at hs
    refine .inl ⟨_, hs, ?_⟩
    refine ⟨fun _ => ?_, fun h => (by cases h)⟩
    refine .inl ⟨_, lives_ok, ?_⟩
    exact rfl
  · refine .inl ⟨_, lives_ok, ?_⟩
    exact rfl
end Go.Proofs.YtocglbflmkadeaaDoor
