/- A part of the proof of a given statement: contracts of functions of the program, under no condition but those that each states. -/
import Derived.Test.YtocglbflmkadeaaDoorL24
set_option linter.unusedSimpArgs false
set_option linter.unusedVariables false
namespace Go.Proofs.YtocglbflmkadeaaDoor
open Go Fp
set_option maxRecDepth 100000
set_option maxHeartbeats 8000000

theorem sub_low (t : Tp) : ∀ (K : Nat) (ps : Env'), Fit K t ps → LowT (K + dp t) (sub t ps) := by
  induction t with
  | var s =>
    intro K ps h
    simp only [sub]
    cases hl : look s ps with
    | none => exact h.low.mono (by omega)
    | some u => exact (h.lows _ (look_mem hl)).mono (by omega)
  | app a b iha ihb =>
    intro K ps h
    have h1 := iha K ps h.app.1
    have h2 := ihb K ps h.app.2
    exact ⟨h1.mono (by simp only [dp]; omega), h2.mono (by simp only [dp]; omega)⟩
  | all s a ih =>
    intro K ps h
    simp only [sub]
    split
    · obtain ⟨h1, h2⟩ := h.all1
      have h3 := ih _ _ h2
      exact ⟨⟨_, by simp only [dp]; omega, rfl⟩, h3.mono (by simp only [dp]; omega)⟩
    · have h3 := ih _ _ h.all0
      exact ⟨h.low.1.mono (by omega), h3.mono (by simp only [dp]; omega)⟩
  | _ => intro K ps h; trivial

theorem sub_dp {D : Nat} (t : Tp) : ∀ ps : Env', (∀ p ∈ ps, dp p.2 ≤ D) → dp (sub t ps) ≤ dp t + D := by
  induction t with
  | var s =>
    intro ps h
    simp only [sub]
    cases hl : look s ps with
    | none => simp [dp]
    | some u => have : dp u ≤ D := h _ (look_mem hl); simp only [dp, Option.getD_some]; omega
  | app a b iha ihb =>
    intro ps h
    have h1 := iha ps h
    have h2 := ihb ps h
    simp only [sub, dp]; omega
  | all s a ih =>
    intro ps h
    simp only [sub]
    split
    · have h3 := ih (kept s (fv a) ps ++ [(s, .var (lett (ff (caught (kept s (fv a) ps) ++ fv a))))]) (fun p hp => by
        rcases List.mem_append.1 hp with hp | hp
        · exact h p (kept_mem hp)
        · simp at hp; subst hp; simp [dp])
      simp only [dp]; omega
    · have h3 := ih (kept s (fv a) ps) (fun p hp => h p (kept_mem hp))
      simp only [dp]; omega
  | _ => intro ps h; simp [sub, dp]

theorem typesComposes_ok {l : List Int} (hl : l.length < 9223372036854775808) (hr : ∀ x ∈ l, InR x) {m : List Int} (hm : m.length < 9223372036854775808) (hmr : ∀ x ∈ m, InR x) {k : List Int} (hk : k.length < 9223372036854775808) (hkr : ∀ x ∈ k, InR x) :
    ACall Tryd.prog n_fuguelaw04_TypesComposes [.sl (eIs l), .sl (eIs m), .sl (eIs k)] (.sb true) := by
  obtain ⟨t, t1, tg, ts⟩ := made_ok hl hr
  obtain ⟨x, x1, xg, xs⟩ := made_ok hm hmr
  obtain ⟨y, y1, yg, ys⟩ := made_ok hk hkr
  obtain ⟨a, ha⟩ : ∃ a : ByteArray, a = ⟨#[97]⟩ := ⟨_, rfl⟩
  obtain ⟨b, hb⟩ : ∃ b : ByteArray, b = ⟨#[98]⟩ := ⟨_, rfl⟩
  have hab : a ≠ b := by rw [ha, hb]; decide
  have ha4 : a ∈ small4 := by rw [ha]; simp [small4]
  have hb4 : b ∈ small4 := by rw [hb]; simp [small4]
  have hyl : (fv y).length ≤ 193 := Nat.le_trans (fv_length y) ys
  have dt := dp_sz t
  have dx := dp_sz x
  have dy := dp_sz y
  have f1 : Fit 24 t [(a, x)] := fit_good tg ts (by simp) (by intro p hp; simp at hp; subst hp; exact ⟨ha4, xg, xs⟩)
  have f2 : Fit 24 t [(b, y)] := fit_good tg ts (by simp) (by intro p hp; simp at hp; subst hp; exact ⟨hb4, yg, ys⟩)
  have f3 : Fit 24 x [(b, y)] := fit_good xg xs (by simp) (by intro p hp; simp at hp; subst hp; exact ⟨hb4, yg, ys⟩)
  obtain ⟨u, hu⟩ : ∃ u, u = sub t [(a, x)] := ⟨_, rfl⟩
  obtain ⟨v, hv⟩ : ∃ v, v = sub t [(b, y)] := ⟨_, rfl⟩
  obtain ⟨w, hw⟩ : ∃ w, w = sub x [(b, y)] := ⟨_, rfl⟩
  have lu : LowT (24 + dp t) u := hu ▸ sub_low t 24 _ f1
  have lv : LowT (24 + dp t) v := hv ▸ sub_low t 24 _ f2
  have lw : LowT (24 + dp x) w := hw ▸ sub_low x 24 _ f3
  have du : dp u ≤ dp t + 193 := hu ▸ sub_dp t _ (by intro p hp; simp at hp; subst hp; exact Nat.le_trans dx xs)
  have dv : dp v ≤ dp t + 193 := hv ▸ sub_dp t _ (by intro p hp; simp at hp; subst hp; exact Nat.le_trans dy ys)
  have su : u.sz ≤ t.sz * 193 := hu ▸ sub_sz (by decide) t _ (by intro p hp; simp at hp; subst hp; exact xs)
  have sv : v.sz ≤ t.sz * 193 := hv ▸ sub_sz (by decide) t _ (by intro p hp; simp at hp; subst hp; exact ys)
  have sw : w.sz ≤ x.sz * 193 := hw ▸ sub_sz (by decide) x _ (by intro p hp; simp at hp; subst hp; exact ys)
  have f4 : Fit 217 u [(b, y)] := ⟨lu.mono (by omega), by intro p hp; simp at hp; subst hp; exact (good_low yg).mono (by omega), by omega, by simp; omega, by omega, by intro p hp; simp at hp; subst hp; show y.sz < _; omega⟩
  have f5 : Fit 217 v [(a, w)] := ⟨lv.mono (by omega), by intro p hp; simp at hp; subst hp; exact lw.mono (by omega), by omega, by simp; omega, by omega, by intro p hp; simp at hp; subst hp; show w.sz < _; omega⟩
  have s1 := subst_ok t.sz t (Nat.le_refl _) 24 _ f1
  have s2 := subst_ok t.sz t (Nat.le_refl _) 24 _ f2
  have s3 := subst_ok x.sz x (Nat.le_refl _) 24 _ f3
  unfold substSays at s1 s2 s3
  rw [← hu] at s1
  rw [← hv] at s2
  rw [← hw] at s3
  have s4 := subst_ok u.sz u (Nat.le_refl _) 217 _ f4
  have s5 := subst_ok v.sz v (Nat.le_refl _) 217 _ f5
  have so : (sub u [(b, y)]).sz < 1000000000 := by
    have : (sub u [(b, y)]).sz ≤ u.sz * 193 := sub_sz (by decide) u _ (by intro p hp; simp at hp; subst hp; exact ys)
    omega
  refine acall_of_wc ttok mixed Tryd.func10 rfl (by rfl) (Nat.le_of_ble_eq_true rfl) (by kernel_rfl) ?_
  refine .inl ⟨_, t1, ?_⟩
  refine .inl ⟨_, x1, ?_⟩
  refine .inl ⟨_, y1, ?_⟩
  refine .inl ⟨_, rFree_ok y (by omega), ?_⟩
  refine .inl ⟨_, has_ok (l := fv y) (s := ⟨#[97]⟩) (by omega), ?_⟩
  rw [← ha]
  refine ⟨fun h => ?_, fun h => ?_⟩
  · refine .inl ⟨_, lives_ok, ?_⟩
    exact rfl
  · have hay : a ∉ fv y := fun hm => by rw [memb_yes hm] at h; cases h
    have hd := composes (t := t) (x := x) hab hay
    rw [← hu, ← hv, ← hw] at hd
    subst ha; subst hb
    refine .inl ⟨_, s1, ?_⟩
    refine .inl ⟨_, s4, ?_⟩
    refine .inl ⟨_, s2, ?_⟩
    refine .inl ⟨_, s3, ?_⟩
    refine .inl ⟨_, s5, ?_⟩
    refine .inl ⟨_, sameT_ok _ _ so, ?_⟩
    rw [smb_same hd]
    refine ⟨fun _ => ?_, fun h => (by cases h)⟩
    refine .inl ⟨_, lives_ok, ?_⟩
    exact rfl
end Go.Proofs.YtocglbflmkadeaaDoor
