/- Two types become one, or not, TAlls too: the run of it, and the code's walk. No condition but that what is known came to be known one by one. -/
import Derived.Test.YtigifkjcghkiiaaDoorR
set_option linter.unusedSimpArgs false
set_option linter.unusedVariables false
namespace Go.Proofs.YtigifkjcghkiiaaDoor
open Go Fp
set_option maxRecDepth 10000
set_option maxHeartbeats 16000000
set_option linter.unusedVariables false
set_option linter.unusedSimpArgs false

/-- How two types come to be one, step by step, TAlls too. -/
inductive OneRA : Kn → Tp → Tp → Int → Kn → Prop
  | bind {l : Kn} {n : Int} {v : Tp} (hn : n ∉ dom l) (hv : ∀ m, v = .mt m → m ∉ dom l) : OneRA l (.mt n) v (bindF l n v).1 (bindF l n v).2
  | bindR {l : Kn} {n : Int} {v : Tp} (hn : n ∉ dom l) (hv : ∀ m, v ≠ .mt m) : OneRA l v (.mt n) (bindF l n v).1 (bindF l n v).2
  | apart {l : Kn} {u v : Tp} (hu : ∀ m, u ≠ .mt m) (hv : ∀ m, v ≠ .mt m) (h5 : ¬ (u.form = 5 ∧ v.form = 5)) (hne : u.form ≠ v.form ∨ u.nam ≠ v.nam) : OneRA l u v 31 l
  | alls {l : Kn} {u v : Tp} (hu : u.form = 5) (hv : v.form = 5) : OneRA l u v (if smb (fl l u) (fl l v) [] [] = true then 0 else 31) l
  | leaf {l : Kn} {u : Tp} (hu : ∀ m, u ≠ .mt m) (ha : u.args = []) : OneRA l u u 0 l
  | app1 {l l1 : Kn} {a1 a2 b1 b2 : Tp} {e : Int} (h1 : OneRA l a1 b1 e l1) (he : e ≠ 0) : OneRA l (.app a1 a2) (.app b1 b2) e l1
  | app2 {l l1 l2 : Kn} {a1 a2 b1 b2 : Tp} {e : Int} (h1 : OneRA l a1 b1 0 l1) (hs : ∃ s, l1 = l ++ s) (ho : Ok l1) (hsm : greatF l = false → greatF l1 = false) (hkp : ∀ P : Tp → Prop, (∀ x y, P (.app x y) → P x ∧ P y) → (∀ q ∈ l, P q.2 ∧ P (.mt q.1)) → P a1 → P b1 → ∀ q ∈ l1, P q.2 ∧ P (.mt q.1)) (h2 : OneRA l1 a2 b2 e l2) : OneRA l (.app a1 a2) (.app b1 b2) e l2
  | look {l : Kn} {a b u v : Tp} {e : Int} {l' : Kn} (hu : Lk l a u) (hv : Lk l b v) (h : OneRA l u v e l') : OneRA l a b e l'

structure OneA (l : Kn) (a b : Tp) (e : Int) (l' : Kn) : Prop where
  ok : Ok l'
  pre : ∃ s, l' = l ++ s
  cl : ∀ U, ClosedK U l → (∀ m ∈ mvs a, m ∈ U) → (∀ m ∈ mvs b, m ∈ U) → ClosedK U l'
  kp : ∀ P : Tp → Prop, (∀ x y, P (.app x y) → P x ∧ P y) → (∀ q ∈ l, P q.2 ∧ P (.mt q.1)) → P a → P b → ∀ q ∈ l', P q.2 ∧ P (.mt q.1)
  small : e = 0 → greatF l = false → greatF l' = false
  run : OneRA l a b e l'

theorem OneA.of_look {l : Kn} {a b u v : Tp} {e : Int} {l' : Kn} (hu : Lk l a u) (hv : Lk l b v) (h : OneA l u v e l') : OneA l a b e l' := by
  refine ⟨h.ok, h.pre, fun U hU ha hb => ?_, fun P hP hl ha hb => h.kp P hP hl (hu.keep P ha fun q hq => (hl q hq).1) (hv.keep P hb fun q hq => (hl q hq).1), h.small, .look hu hv h.run⟩
  exact h.cl U hU (hu.keep (fun t => ∀ m ∈ mvs t, m ∈ U) ha (fun q hq => (hU q hq).2)) (hv.keep (fun t => ∀ m ∈ mvs t, m ∈ U) hb (fun q hq => (hU q hq).2))
theorem stay_a {l : Kn} (h : Ok l) {a b : Tp} {e : Int} (hr : OneRA l a b e l) : OneA l a b e l :=
  ⟨h, ⟨[], by simp⟩, fun U hU _ _ => hU, fun _ _ hl _ _ => hl, fun _ hg => hg, hr⟩
theorem bind_a {l : Kn} (h : Ok l) {n : Int} {v a b : Tp} (hn : n ∉ dom l) (hv : ∀ m, v = .mt m → m ∉ dom l) (hab : (a = .mt n ∧ b = v) ∨ (a = v ∧ b = .mt n)) (hrun : OneRA l a b (bindF l n v).1 (bindF l n v).2) : OneA l a b (bindF l n v).1 (bindF l n v).2 := by
  unfold bindF at hrun ⊢
  by_cases h0 : v = .mt n
  · rw [if_pos h0] at hrun ⊢
    exact stay_a h hrun
  rw [if_neg h0] at hrun ⊢
  have hs := swp_unknown hn hv
  have hkp : ∀ P : Tp → Prop, P (.mt n) → P v → P (swp n v).2 ∧ P (.mt (swp n v).1) := fun P h1 h2 => by
    unfold swp
    cases v with
    | mt m =>
      simp only
      split
      · exact ⟨h1, h2⟩
      · exact ⟨h2, h1⟩
    | _ => exact ⟨h2, h1⟩
  have hmem : ∀ U : List Int, n ∈ U → (∀ m ∈ mvs v, m ∈ U) → (swp n v).1 ∈ U ∧ ∀ m ∈ mvs (swp n v).2, m ∈ U := fun U h1 h2 => by
    unfold swp
    cases v with
    | mt m =>
      simp only
      split
      · exact ⟨h2 m (by simp [mvs]), fun k hk => by simp [mvs] at hk; subst hk; exact h1⟩
      · exact ⟨h1, h2⟩
    | _ => exact ⟨h1, h2⟩
  generalize swp n v = q at *
  by_cases hin : q.1 ∈ mvs (fl l q.2)
  · rw [if_pos hin] at hrun ⊢
    exact stay_a h hrun
  · rw [if_neg hin] at hrun ⊢
    have hok : Ok (l ++ [q]) := by obtain ⟨n', t'⟩ := q; exact ok_snoc.2 ⟨h, hs, hin⟩
    have base : ∀ e : Int, (e = 0 → greatF (l ++ [q]) = false) → OneRA l a b e (l ++ [q]) → OneA l a b e (l ++ [q]) := fun e h2 hrn => by
      refine ⟨hok, ⟨_, rfl⟩, fun U hU ha hb => ?_, fun P hP hl ha hb r hr => ?_, fun h _ => h2 h, hrn⟩
      · intro r hr
        rcases List.mem_append.1 hr with hr | hr
        · exact hU r hr
        · simp at hr; subst hr
          rcases hab with ⟨rfl, rfl⟩ | ⟨rfl, rfl⟩
          · exact hmem U (ha n (by simp [mvs])) hb
          · exact hmem U (hb n (by simp [mvs])) ha
      · rcases List.mem_append.1 hr with hr | hr
        · exact hl r hr
        · simp at hr; subst hr
          rcases hab with ⟨rfl, rfl⟩ | ⟨rfl, rfl⟩
          · exact hkp P ha hb
          · exact hkp P hb ha
    by_cases hg : greatF (l ++ [q]) = true
    · rw [if_pos hg] at hrun ⊢
      exact base 39 (fun e => by simp at e) hrun
    · rw [if_neg hg] at hrun ⊢
      exact base 0 (fun _ => by simpa using hg) hrun
theorem app_a1 {l l1 : Kn} {a1 a2 b1 b2 : Tp} {e : Int} (h1 : OneA l a1 b1 e l1) (he : e ≠ 0) : OneA l (.app a1 a2) (.app b1 b2) e l1 :=
  ⟨h1.ok, h1.pre, fun U hU ha hb => h1.cl U hU (fun m hm => ha m (by simp [mvs, hm])) (fun m hm => hb m (by simp [mvs, hm])), fun P hP hl ha hb => h1.kp P hP hl (hP _ _ ha).1 (hP _ _ hb).1, fun h => absurd h he, .app1 h1.run he⟩
theorem app_a2 {l l1 l2 : Kn} {a1 a2 b1 b2 : Tp} {e : Int} (h1 : OneA l a1 b1 0 l1) (h2 : OneA l1 a2 b2 e l2) : OneA l (.app a1 a2) (.app b1 b2) e l2 := by
  refine ⟨h2.ok, ?_, fun U hU ha hb => ?_, fun P hP hl ha hb => h2.kp P hP (h1.kp P hP hl (hP _ _ ha).1 (hP _ _ hb).1) (hP _ _ ha).2 (hP _ _ hb).2, fun he hg => h2.small he (h1.small rfl hg), .app2 h1.run h1.pre h1.ok (h1.small rfl) h1.kp h2.run⟩
  · obtain ⟨s, rfl⟩ := h1.pre
    obtain ⟨s2, rfl⟩ := h2.pre
    exact ⟨s ++ s2, by simp⟩
  · exact h2.cl U (h1.cl U hU (fun m hm => ha m (by simp [mvs, hm])) (fun m hm => hb m (by simp [mvs, hm]))) (fun m hm => ha m (by simp [mvs, hm])) (fun m hm => hb m (by simp [mvs, hm]))
end Go.Proofs.YtigifkjcghkiiaaDoor

namespace Go.Proofs.YtigifkjcghkiiaaDoor
open Go Fp
set_option maxRecDepth 10000
set_option maxHeartbeats 16000000
set_option linter.unusedVariables false
set_option linter.unusedSimpArgs false

theorem form_argsA {u v : Tp} (hu : ∀ m, u ≠ .mt m) (hf : u.form ≠ 5) (hv : ∀ m, v ≠ .mt m) (h1 : u.form = v.form) (h2 : u.nam = v.nam) : (u = v ∧ u.args = []) ∨ ∃ a1 a2 b1 b2, u = .app a1 a2 ∧ v = .app b1 b2 := by
  cases u with
  | mt m => exact absurd rfl (hu m)
  | all s a => exact absurd rfl hf
  | app a1 a2 =>
    obtain ⟨b1, b2, rfl⟩ := Tp.is_app (t := v) h1.symm
    exact .inr ⟨_, _, _, _, rfl, rfl⟩
  | no =>
    cases v <;> first | exact .inl ⟨rfl, rfl⟩ | (simp [Tp.form] at h1; done)
  | var s =>
    obtain ⟨s', rfl⟩ := Tp.is_var (t := v) h1.symm
    simp only [Tp.nam] at h2; subst h2
    exact .inl ⟨rfl, rfl⟩
  | con s =>
    obtain ⟨s', rfl⟩ := Tp.is_con (t := v) h1.symm
    simp only [Tp.nam] at h2; subst h2
    exact .inl ⟨rfl, rfl⟩

theorem one_stepA {l : Kn} (h : Ok l) {a b : Tp} (hz : (fl l a).sz < 1000000000)
    (ih : ∀ u v, Lk l a u → Lk l b v → ∀ a1 a2 b1 b2, u = .app a1 a2 → v = .app b1 b2 → (∃ e l1, OneA l a1 b1 e l1 ∧ OneOk l a1 b1 e l1 ∧ (e = 0 → ∃ e2 l2, OneA l1 a2 b2 e2 l2 ∧ OneOk l1 a2 b2 e2 l2))) :
    ∃ e l', OneA l a b e l' ∧ OneOk l a b e l' := by
  obtain ⟨u, hu, hL1⟩ := look_ex h a
  obtain ⟨v, hv, hL2⟩ := look_ex h b
  by_cases hum : u.form = 1
  · obtain ⟨n, rfl⟩ := Tp.is_mt hum
    refine ⟨_, _, OneA.of_look hu hv (bind_a h hu.unknown (fun m e => hv.stop m e) (.inl ⟨rfl, rfl⟩) (.bind hu.unknown (fun m e => hv.stop m e))), fun b1 b2 k => ?_⟩
    have hB := bind_ok h hu.unknown (fun m e => hv.stop m e) b1 b2 k
    have hL1 := hL1 b1 b2 k
    have hL2 := hL2 b1 b2 k
    generalize bindF l n v = q at *
    refine callsG_of_wcx (first := []) (cap := []) ttok mixed Tryd.func41 rfl (by rfl) rfl (Nat.le_of_ble_eq_true rfl) (by kernel_rfl) ?_
    refine .inr (.inr (.inl ⟨[0, 1], stH b1 b2 k l, _, rfl, by decide, hL1, ?_⟩))
    refine .inr (.inr (.inl ⟨[0, 1], stH b1 b2 k l, _, rfl, by decide, hL2, ?_⟩))
    refine ⟨by kernel_rfl, ?_⟩
    refine ⟨fun hbs => ?_, fun hbs => ?_⟩ <;> first | (exfalso; revert hbs; intro hbs; cases hbs; done) | skip
    refine .inr (.inr (.inr (.inl ⟨[0, 1], stH b1 b2 k l, stH b1 b2 k q.2, _, rfl, by decide, rfl, hB, ?_⟩)))
    exact ⟨rfl, rfl, rfl⟩
  by_cases hvm : v.form = 1
  · obtain ⟨n, rfl⟩ := Tp.is_mt hvm
    refine ⟨_, _, OneA.of_look hu hv (bind_a h hv.unknown (fun m e => hu.stop m e) (.inr ⟨rfl, rfl⟩) (.bindR hv.unknown (fun m e => hum (by rw [e]; rfl)))), fun b1 b2 k => ?_⟩
    have hB := bind_ok h hv.unknown (fun m e => hu.stop m e) b1 b2 k
    have hL1 := hL1 b1 b2 k
    have hL2 := hL2 b1 b2 k
    generalize bindF l n u = q at *
    refine callsG_of_wcx (first := []) (cap := []) ttok mixed Tryd.func41 rfl (by rfl) rfl (Nat.le_of_ble_eq_true rfl) (by kernel_rfl) ?_
    refine .inr (.inr (.inl ⟨[0, 1], stH b1 b2 k l, _, rfl, by decide, hL1, ?_⟩))
    refine .inr (.inr (.inl ⟨[0, 1], stH b1 b2 k l, _, rfl, by decide, hL2, ?_⟩))
    refine ⟨by kernel_rfl, ?_⟩
    refine ⟨fun hbs => ?_, fun hbs => ?_⟩ <;> first | (exfalso; revert hbs; (simp [hum]); done) | skip
    refine ⟨fun hbs => ?_, fun hbs => ?_⟩ <;> first | (exfalso; revert hbs; intro hbs; cases hbs; done) | skip
    refine .inr (.inr (.inr (.inl ⟨[0, 1], stH b1 b2 k l, stH b1 b2 k q.2, _, rfl, by decide, rfl, hB, ?_⟩)))
    exact ⟨rfl, rfl, rfl⟩
  have hum' : ∀ m, u ≠ .mt m := fun m e => hum (by rw [e]; rfl)
  have hvm' : ∀ m, v ≠ .mt m := fun m e => hvm (by rw [e]; rfl)
  by_cases hff : u.form = v.form
  rotate_left
  · refine ⟨31, l, OneA.of_look hu hv (stay_a h (.apart hum' hvm' (fun e => hff (e.1.trans e.2.symm)) (.inl hff))), fun b1 b2 k => ?_⟩
    have hL1 := hL1 b1 b2 k
    have hL2 := hL2 b1 b2 k
    refine callsG_of_wcx (first := []) (cap := []) ttok mixed Tryd.func41 rfl (by rfl) rfl (Nat.le_of_ble_eq_true rfl) (by kernel_rfl) ?_
    refine .inr (.inr (.inl ⟨[0, 1], stH b1 b2 k l, _, rfl, by decide, hL1, ?_⟩))
    refine .inr (.inr (.inl ⟨[0, 1], stH b1 b2 k l, _, rfl, by decide, hL2, ?_⟩))
    refine ⟨by kernel_rfl, ?_⟩
    refine ⟨fun hbs => ?_, fun hbs => ?_⟩ <;> first | (exfalso; revert hbs; (simp [hum]); done) | skip
    refine ⟨fun hbs => ?_, fun hbs => ?_⟩ <;> first | (exfalso; revert hbs; (simp [hvm]); done) | skip
    refine ⟨fun hbs => ?_, fun hbs => ?_⟩ <;> first | (exfalso; revert hbs; (simp [hff]); done) | skip
    exact ⟨rfl, rfl, rfl⟩
  by_cases hu5 : u.form = 5
  · have hA1 := Apply_ok h u
    have hA2 := Apply_ok h v
    have hSm := sameT_ok (fl l u) (fl l v) (by rw [hu.same]; exact hz)
    refine ⟨_, l, OneA.of_look hu hv (stay_a h (.alls hu5 (hff ▸ hu5))), fun b1 b2 k => ?_⟩
    have hL1 := hL1 b1 b2 k
    have hL2 := hL2 b1 b2 k
    refine callsG_of_wcx (first := []) (cap := []) ttok mixed Tryd.func41 rfl (by rfl) rfl (Nat.le_of_ble_eq_true rfl) (by kernel_rfl) ?_
    refine .inr (.inr (.inl ⟨[0, 1], stH b1 b2 k l, _, rfl, by decide, hL1, ?_⟩))
    refine .inr (.inr (.inl ⟨[0, 1], stH b1 b2 k l, _, rfl, by decide, hL2, ?_⟩))
    refine ⟨by kernel_rfl, ?_⟩
    refine ⟨fun hbs => ?_, fun hbs => ?_⟩ <;> first | (exfalso; revert hbs; (simp [hum]); done) | skip
    refine ⟨fun hbs => ?_, fun hbs => ?_⟩ <;> first | (exfalso; revert hbs; (simp [hvm]); done) | skip
    refine ⟨fun hbs => ?_, fun hbs => ?_⟩ <;> first | (exfalso; revert hbs; (simp [hff]); done) | skip
    refine ⟨fun hbs => ?_, fun hbs => ?_⟩ <;> first | (exfalso; revert hbs; (simp [hu5]); done) | skip
    refine .inr (.inr (.inl ⟨[0, 1], stH b1 b2 k l, _, rfl, by decide, hA1 b1 b2 k, ?_⟩))
    refine .inr (.inr (.inl ⟨[0, 1], stH b1 b2 k l, _, rfl, by decide, hA2 b1 b2 k, ?_⟩))
    refine .inl ⟨_, hSm, ?_⟩
    refine ⟨by kernel_rfl, ?_⟩
    by_cases hq : smb (fl l u) (fl l v) [] [] = true
    · refine ⟨fun hbs => ?_, fun hbs => ?_⟩ <;> first | (exfalso; revert hbs; (simp [hq]); done) | skip
      rw [if_pos hq]
      exact ⟨rfl, rfl, rfl⟩
    · refine ⟨fun hbs => ?_, fun hbs => ?_⟩ <;> first | (exfalso; revert hbs; (simp [hq]); done) | skip
      rw [if_neg hq]
      exact ⟨rfl, rfl, rfl⟩
  by_cases hnn : u.nam = v.nam
  rotate_left
  · refine ⟨31, l, OneA.of_look hu hv (stay_a h (.apart hum' hvm' (fun e => hu5 e.1) (.inr hnn))), fun b1 b2 k => ?_⟩
    have hL1 := hL1 b1 b2 k
    have hL2 := hL2 b1 b2 k
    refine callsG_of_wcx (first := []) (cap := []) ttok mixed Tryd.func41 rfl (by rfl) rfl (Nat.le_of_ble_eq_true rfl) (by kernel_rfl) ?_
    refine .inr (.inr (.inl ⟨[0, 1], stH b1 b2 k l, _, rfl, by decide, hL1, ?_⟩))
    refine .inr (.inr (.inl ⟨[0, 1], stH b1 b2 k l, _, rfl, by decide, hL2, ?_⟩))
    refine ⟨by kernel_rfl, ?_⟩
    refine ⟨fun hbs => ?_, fun hbs => ?_⟩ <;> first | (exfalso; revert hbs; (simp [hum]); done) | skip
    refine ⟨fun hbs => ?_, fun hbs => ?_⟩ <;> first | (exfalso; revert hbs; (simp [hvm]); done) | skip
    refine ⟨fun hbs => ?_, fun hbs => ?_⟩ <;> first | (exfalso; revert hbs; (simp [hff]); done) | skip
    refine ⟨fun hbs => ?_, fun hbs => ?_⟩ <;> first | (exfalso; revert hbs; (simp [hu5]); done) | skip
    refine ⟨fun hbs => ?_, fun hbs => ?_⟩ <;> first | (exfalso; revert hbs; (simp [hnn]); done) | skip
    exact ⟨rfl, rfl, rfl⟩
  rcases form_argsA hum' hu5 hvm' hff hnn with ⟨rfl, hargs⟩ | ⟨a1, a2, c1, c2, rfl, rfl⟩
  · refine ⟨0, l, OneA.of_look hu hv (stay_a h (.leaf hum' hargs)), fun b1 b2 k => ?_⟩
    have hL1 := hL1 b1 b2 k
    have hL2 := hL2 b1 b2 k
    have hea : u.eArgs = [] := by rw [u.eArgs_eq, hargs]; rfl
    refine callsG_of_wcx (first := []) (cap := []) ttok mixed Tryd.func41 rfl (by rfl) rfl (Nat.le_of_ble_eq_true rfl) (by kernel_rfl) ?_
    refine .inr (.inr (.inl ⟨[0, 1], stH b1 b2 k l, _, rfl, by decide, hL1, ?_⟩))
    refine .inr (.inr (.inl ⟨[0, 1], stH b1 b2 k l, _, rfl, by decide, hL2, ?_⟩))
    refine ⟨by kernel_rfl, ?_⟩
    refine ⟨fun hbs => ?_, fun hbs => ?_⟩ <;> first | (exfalso; revert hbs; (simp [hum]); done) | skip
    refine ⟨fun hbs => ?_, fun hbs => ?_⟩ <;> first | (exfalso; revert hbs; (simp [hum]); done) | skip
    refine ⟨fun hbs => ?_, fun hbs => ?_⟩ <;> first | (exfalso; revert hbs; (simp); done) | skip
    refine ⟨fun hbs => ?_, fun hbs => ?_⟩ <;> first | (exfalso; revert hbs; (simp [hu5]); done) | skip
    refine ⟨fun hbs => ?_, fun hbs => ?_⟩ <;> first | (exfalso; revert hbs; (simp); done) | skip
    refine ⟨Unit, fun _ => { vs := [(59, sv 0), (60, sv 0)], hp := stH b1 b2 k l }, fun _ => 0, (), ⟨⟨svc (by rw [hea]; rfl), rfl, trivial⟩, trivial, rfl⟩, ?_⟩
    rintro ⟨⟩
    refine ⟨fun hbs => ?_, fun hbs => ?_⟩ <;> first | (exfalso; revert hbs; intro hbs; cases hbs; done) | skip
    exact ⟨rfl, rfl, rfl⟩
  · obtain ⟨e1, l1, s1, k1, r1⟩ := ih _ _ hu hv a1 a2 c1 c2 rfl rfl
    have start : ∀ (e : Int) (l' : Kn) (L : Nat → Kn) (I : Nat → Prop), L 0 = l → I 0 → (∀ i, I i → i ≤ 2) → (∀ i x y, I i → i < 2 → ([a1, a2][i]? = some x) → ([c1, c2][i]? = some y) → ∃ ei, OneOk (L i) x y ei (L (i + 1)) ∧ ((ei = 0 ∧ I (i + 1)) ∨ (ei ≠ 0 ∧ ei = e ∧ L (i + 1) = l'))) → (I 2 → e = 0 ∧ L 2 = l') → OneOk l a b e l' := fun e l' L I hL0 hI0 hI2 hst hfin b1 b2 k => by
      have hL1 := hL1 b1 b2 k
      have hL2 := hL2 b1 b2 k
      refine callsG_of_wcx (first := []) (cap := []) ttok mixed Tryd.func41 rfl (by rfl) rfl (Nat.le_of_ble_eq_true rfl) (by kernel_rfl) ?_
      refine .inr (.inr (.inl ⟨[0, 1], stH b1 b2 k l, _, rfl, by decide, hL1, ?_⟩))
      refine .inr (.inr (.inl ⟨[0, 1], stH b1 b2 k l, _, rfl, by decide, hL2, ?_⟩))
      refine ⟨by kernel_rfl, ?_⟩
      refine ⟨fun hbs => ?_, fun hbs => ?_⟩ <;> first | (exfalso; revert hbs; intro hbs; cases hbs; done) | skip
      refine ⟨fun hbs => ?_, fun hbs => ?_⟩ <;> first | (exfalso; revert hbs; intro hbs; cases hbs; done) | skip
      refine ⟨fun hbs => ?_, fun hbs => ?_⟩ <;> first | (exfalso; revert hbs; intro hbs; cases hbs; done) | skip
      refine ⟨fun hbs => ?_, fun hbs => ?_⟩ <;> first | (exfalso; revert hbs; intro hbs; cases hbs; done) | skip
      refine ⟨fun hbs => ?_, fun hbs => ?_⟩ <;> first | (exfalso; revert hbs; (simp [Tp.nam]); done) | skip
      refine ⟨{i : Nat // I i}, fun i => { vs := [(0, .v (sP b1)), (4, .box 0 (eTy (.app a1 a2))), (5, .box 0 (eTy (.app c1 c2))), (59, sv 2), (60, sv (i.1 : Nat))], hp := stH b1 b2 k (L i.1) }, fun i => 2 - i.1, ⟨0, hI0⟩, ⟨⟨rfl, rfl, rfl, rfl, rfl, trivial⟩, trivial, by simp only; rw [hL0]; rfl⟩, ?_⟩
      rintro ⟨i, hi⟩
      refine ⟨fun hlt => ?_, fun hge => ?_⟩
      · have hlt : i < 2 := by have hlt := of_decide_eq_true hlt; simp only at hlt; omega
        obtain ⟨x, hx⟩ : ∃ x, [a1, a2][i]? = some x := ⟨_, List.getElem?_eq_getElem (by simpa using hlt)⟩
        obtain ⟨y, hy⟩ : ∃ y, [c1, c2][i]? = some y := ⟨_, List.getElem?_eq_getElem (by simpa using hlt)⟩
        obtain ⟨ei, hk, hres⟩ := hst i x y hi hlt hx hy
        have hk := hk b1 b2 k
        have hg1 : (eTys [a1, a2])[i]? = some (eTy x) := by unfold eTys; rw [List.getElem?_map, hx]; rfl
        have hg2 : (eTys [c1, c2])[i]? = some (eTy y) := by unfold eTys; rw [List.getElem?_map, hy]; rfl
        refine ⟨_, by omega, hg1, rfl, ?_⟩
        refine ⟨_, by omega, hg2, rfl, ?_⟩
        refine .inr (.inr (.inr ⟨[0, 1], stH b1 b2 k (L i), stH b1 b2 k (L (i + 1)), _, rfl, by decide, rfl, hk, ?_⟩))
        refine ⟨by kernel_rfl, ?_⟩
        rcases hres with ⟨rfl, hI⟩ | ⟨hne, rfl, hLl⟩
        · refine ⟨fun hbs => ?_, fun hbs => ?_⟩ <;> first | (exfalso; revert hbs; (simp); done) | skip
          exact ⟨⟨i + 1, hI⟩, by simp; omega, ⟨rfl, rfl, rfl, rfl, svc (wrap_succ (k := i) (by omega)), trivial⟩, trivial, rfl⟩
        · refine ⟨fun hbs => ?_, fun hbs => ?_⟩ <;> first | (exfalso; revert hbs; (simp [hne]); done) | skip
          rw [← hLl]
          exact ⟨rfl, rfl, rfl⟩
      · have hge : i = 2 := by have hge := of_decide_eq_false hge; have := hI2 i hi; simp only at hge; omega
        subst hge
        obtain ⟨rfl, hLl⟩ := hfin hi
        rw [← hLl]
        exact ⟨rfl, rfl, rfl⟩
    by_cases he : e1 = 0
    · subst he
      obtain ⟨e2, l2, s2, k2⟩ := r1 rfl
      refine ⟨e2, l2, OneA.of_look hu hv (app_a2 s1 s2), ?_⟩
      refine start e2 l2 (fun i => match i with | 0 => l | 1 => l1 | _ => l2) (fun i => i ≤ 1 ∨ (e2 = 0 ∧ i = 2)) rfl (.inl (by omega)) (fun i hi => by omega) (fun i x y hi hlt hx hy => ?_) (fun h2 => ⟨by omega, rfl⟩)
      match i, hlt with
      | 0, _ =>
        simp at hx hy; subst hx; subst hy
        exact ⟨0, k1, .inl ⟨rfl, .inl (by omega)⟩⟩
      | 1, _ =>
        simp at hx hy; subst hx; subst hy
        refine ⟨e2, k2, ?_⟩
        by_cases h2 : e2 = 0
        · exact .inl ⟨h2, .inr ⟨h2, rfl⟩⟩
        · exact .inr ⟨h2, rfl, rfl⟩
    · refine ⟨e1, l1, OneA.of_look hu hv (app_a1 s1 he), ?_⟩
      refine start e1 l1 (fun i => match i with | 0 => l | _ => l1) (fun i => i = 0) rfl rfl (fun i hi => by omega) (fun i x y hi hlt hx hy => ?_) (fun h2 => by omega)
      subst hi
      simp at hx hy; subst hx; subst hy
      exact ⟨e1, k1, .inr ⟨he, rfl, rfl⟩⟩

end Go.Proofs.YtigifkjcghkiiaaDoor

namespace Go.Proofs.YtigifkjcghkiiaaDoor
open Go Fp
set_option maxRecDepth 10000
set_option maxHeartbeats 16000000
set_option linter.unusedVariables false
set_option linter.unusedSimpArgs false

theorem one_exA (U : List Int) : ∀ (c s : Nat) (l : Kn) (a b : Tp), cnt U l ≤ c → tsz (fl l a) ≤ s → Ok l → greatF l = false → (∀ q ∈ l, tsz q.2 ≤ 400) → tsz a ≤ 400 → tsz b ≤ 400 → ClosedK U l → (∀ m ∈ mvs a, m ∈ U) → (∀ m ∈ mvs b, m ∈ U) → ∃ e l', OneA l a b e l' ∧ OneOk l a b e l' := by
  intro c
  induction c using Nat.strongRecOn with
  | _ c ihc =>
    intro s
    induction s using Nat.strongRecOn with
    | _ s ihs =>
      intro l a b hc hs h hg hfl ha hb hU hUa hUb
      refine one_stepA h (by have := small_fl hg ha; have := (sz_tsz (fl l a)).1; omega) (fun u v hu hv a1 a2 b1 b2 eu ev => ?_)
      subst eu; subst ev
      have huf : tsz (.app a1 a2) ≤ 400 := hu.keep (fun t => tsz t ≤ 400) ha hfl
      have hvf : tsz (.app b1 b2) ≤ 400 := hv.keep (fun t => tsz t ≤ 400) hb hfl
      simp only [tsz] at huf hvf
      have huU := hu.keep (fun t => ∀ m ∈ mvs t, m ∈ U) hUa (fun q hq => (hU q hq).2)
      have hvU := hv.keep (fun t => ∀ m ∈ mvs t, m ∈ U) hUb (fun q hq => (hU q hq).2)
      have hsz : tsz (fl l a) = tsz (fl l a1) + tsz (fl l a2) := by rw [← hu.same, fl_app]; rfl
      have p1 := tsz_pos (fl l a1)
      have p2 := tsz_pos (fl l a2)
      obtain ⟨e1, l1, s1, k1⟩ := ihs (tsz (fl l a1)) (by omega) l a1 b1 hc (Nat.le_refl _) h hg hfl (by omega) (by omega) hU (fun m hm => huU m (by simp [mvs, hm])) (fun m hm => hvU m (by simp [mvs, hm]))
      refine ⟨e1, l1, s1, k1, fun he1 => ?_⟩
      have hg1 := s1.small he1 hg
      have hz1 : ∀ q ∈ l1, tsz q.2 ≤ 400 := fun q hq => (s1.kp (fun t => tsz t ≤ 400) (fun x y h => by have := tsz_pos x; have := tsz_pos y; simp only [tsz] at h; constructor <;> omega) (fun q hq => ⟨hfl q hq, by simp [tsz]⟩) (by omega) (by omega) q hq).1
      have hU1 := s1.cl U hU (fun m hm => huU m (by simp [mvs, hm])) (fun m hm => hvU m (by simp [mvs, hm]))
      have r2 : ∀ m ∈ mvs a2, m ∈ U := fun m hm => huU m (by simp [mvs, hm])
      have r3 : ∀ m ∈ mvs b2, m ∈ U := fun m hm => hvU m (by simp [mvs, hm])
      obtain ⟨sx, hsx⟩ := s1.pre
      by_cases he : sx = []
      · have : l1 = l := by rw [hsx, he, List.append_nil]
        subst this
        exact ihs (tsz (fl l1 a2)) (by omega) l1 a2 b2 hc (Nat.le_refl _) h hg hfl (by omega) (by omega) hU r2 r3
      · have hok := s1.ok
        rw [hsx] at hok hU1
        have hlt := cnt_lt he hok hU1
        rw [← hsx] at hlt hU1
        exact ihc (cnt U l1) (by omega) (tsz (fl l1 a2)) l1 a2 b2 (Nat.le_refl _) (Nat.le_refl _) s1.ok hg1 hz1 (by omega) (by omega) hU1 r2 r3
/-- Two types become one, or not. -/
theorem one_okA {l : Kn} (h : Ok l) (hg : greatF l = false) (hfl : ∀ q ∈ l, tsz q.2 ≤ 400) {a b : Tp} (ha : tsz a ≤ 400) (hb : tsz b ≤ 400) : ∃ e l', OneA l a b e l' ∧ OneOk l a b e l' := by
  refine one_exA (dom l ++ (l.flatMap fun q => mvs q.2) ++ mvs a ++ mvs b) _ _ l a b (Nat.le_refl _) (Nat.le_refl _) h hg hfl ha hb (fun q hq => ⟨?_, fun m hm => ?_⟩) (fun m hm => by simp [hm]) (fun m hm => by simp [hm])
  · simp only [List.mem_append]
    exact .inl (.inl (.inl (List.mem_map.2 ⟨q, hq, rfl⟩)))
  · simp only [List.mem_append]
    exact .inl (.inl (.inr (List.mem_flatMap.2 ⟨q, hq, hm⟩)))
theorem unify_okA {l : Kn} (h : Ok l) (hg : greatF l = false) (hfl : ∀ q ∈ l, tsz q.2 ≤ 400) {a b : Tp} (ha : tsz a ≤ 400) (hb : tsz b ≤ 400) : ∃ e l', OneA l a b e l' ∧ (∀ b1 b2 k, CallsG Tryd.prog (fnv n_unify_Subst_Unify) (stH b1 b2 k l) [sP b1, eTy a, eTy b] [] fun r o hp => r = .lit (.int .i64 e) ∧ o = 0 ∧ ∃ b3, hp = stH b1 b3 k (if e = 0 then l' else l)) ∧
    (e = 0 → ∀ b1 b2 k, CallsG Tryd.prog (fnv n_unify_Subst_Unify) (stH b1 b2 k l) [sP b1, eTy a, eTy b] [] fun r o hp => r = .lit (.int .i64 0) ∧ o = 0 ∧ hp = stH b1 b2 k l') := by
  obtain ⟨e, l', hS, hO⟩ := one_okA h hg hfl ha hb
  refine ⟨e, l', hS, fun b1 b2 k => ?_, fun he b1 b2 k => ?_⟩
  rotate_left
  · subst he
    have hO := hO b1 b2 k
    have hC := clone_ok b2 (eKn l)
    refine CallsG.lessS (post := fun r o hp => r = .lit (.int .i64 0) ∧ ∃ b3, hp = stH b1 b2 k l' ++ [(b3, HO.mp (eKn l))]) ?_ (fun r o hp hpo => ?_)
    rotate_left
    · obtain ⟨h1, b3, rfl⟩ := hpo
      exact ⟨stH b1 b2 k l', List.sublist_append_left _ _, h1, rfl, rfl⟩
    refine callsG_of_wcx (first := []) (cap := []) ttok mixed Tryd.func14 rfl (by rfl) rfl (Nat.le_of_ble_eq_true rfl) (by kernel_rfl) ?_
    refine ⟨0, _, _, rfl, rfl, ?_⟩
    refine .inr (.inr (.inr (.inr (.inr (.inl ⟨[1], [(b2, HO.mp (eKn l))], [], _, rfl, by decide, rfl, hC, ?_⟩)))))
    rintro r' w hp ⟨rfl, b3, rfl, rfl⟩
    refine .inr (.inr (.inr (.inl ⟨[0, 1], stH b1 b2 k l, stH b1 b2 k l', _, rfl, by decide, rfl, hO, ?_⟩)))
    refine ⟨fun hbs => ?_, fun hbs => ?_⟩ <;> first | (exfalso; revert hbs; (simp); done) | skip
    exact ⟨rfl, b3, rfl⟩
  have hO := hO b1 b2 k
  have hC := clone_ok b2 (eKn l)
  refine CallsG.lessS (post := fun r o hp => r = .lit (.int .i64 e) ∧ ∃ b3, (e = 0 ∧ hp = stH b1 b2 k l' ++ [(b3, HO.mp (eKn l))]) ∨ (e ≠ 0 ∧ hp = [(b1, HO.cells [.lit (.int .i64 k), .lit (.map (some b3))]), (b2, HO.mp (eKn l')), (b3, HO.mp (eKn l))])) ?_ (fun r o hp hpo => ?_)
  rotate_left
  · obtain ⟨h1, b3, ⟨h2, rfl⟩ | ⟨h2, rfl⟩⟩ := hpo
    · exact ⟨stH b1 b2 k l', List.sublist_append_left _ _, h1, rfl, b2, by rw [if_pos h2]⟩
    · exact ⟨stH b1 b3 k l, (List.sublist_cons_self _ _).cons_cons _, h1, rfl, b3, by rw [if_neg h2]⟩
  refine callsG_of_wcx (first := []) (cap := []) ttok mixed Tryd.func14 rfl (by rfl) rfl (Nat.le_of_ble_eq_true rfl) (by kernel_rfl) ?_
  refine ⟨0, _, _, rfl, rfl, ?_⟩
  refine .inr (.inr (.inr (.inr (.inr (.inl ⟨[1], [(b2, HO.mp (eKn l))], [], _, rfl, by decide, rfl, hC, ?_⟩)))))
  rintro r' w hp ⟨rfl, b3, rfl, rfl⟩
  refine .inr (.inr (.inr (.inl ⟨[0, 1], stH b1 b2 k l, stH b1 b2 k l', _, rfl, by decide, rfl, hO, ?_⟩)))
  by_cases he : e = 0
  · subst he
    refine ⟨fun hbs => ?_, fun hbs => ?_⟩ <;> first | (exfalso; revert hbs; (simp); done) | skip
    exact ⟨rfl, b3, .inl ⟨rfl, rfl⟩⟩
  · refine ⟨fun hbs => ?_, fun hbs => ?_⟩ <;> first | (exfalso; revert hbs; (simp [he]); done) | skip
    refine ⟨rfl, 0, _, rfl, Nat.le_of_ble_eq_true rfl, ?_⟩
    exact ⟨rfl, b3, .inr ⟨he, rfl⟩⟩
end Go.Proofs.YtigifkjcghkiiaaDoor
