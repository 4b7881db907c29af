/- Two types become one. No condition but that what is known came to be known one by one, and has no type for all. -/
import Derived.Test.YtigifkjcghkiiaaDoorF
import Derived.Laws.Externs
import Derived.MapKept
import Derived.WalkKit
set_option linter.unusedSimpArgs false
set_option linter.unusedVariables false
namespace Go.Proofs.YtigifkjcghkiiaaDoor
open Go Fp
set_option maxRecDepth 10000
set_option maxHeartbeats 16000000
set_option linter.unusedVariables false
set_option linter.unusedSimpArgs false

def OneOk (l : Kn) (a b : Tp) (e : Int) (l' : Kn) : Prop := ∀ b1 b2 k, CallsG Tryd.prog (fnv n_unify_Subst_one) (stH b1 b2 k l) [sP b1, eTy a, eTy b] [] fun r o h => r = .lit (.int .i64 e) ∧ o = 0 ∧ h = stH b1 b2 k l'

theorem form_args {u v : Tp} (hu : ∀ m, u ≠ .mt m) (hf : flat u) (hv : ∀ m, v ≠ .mt m) (hg : flat v) (h1 : u.form = v.form) (h2 : u.nam = v.nam) : (u = v ∧ u.args = []) ∨ ∃ a1 a2 b1 b2, u = .app a1 a2 ∧ v = .app b1 b2 := by
  cases u with
  | mt m => exact absurd rfl (hu m)
  | all s a => exact hf.elim
  | app a1 a2 =>
    obtain ⟨b1, b2, rfl⟩ := Tp.is_app (t := v) h1.symm
    exact .inr ⟨_, _, _, _, rfl, rfl⟩
  | no =>
    cases v <;> first | exact .inl ⟨rfl, rfl⟩ | (simp [Tp.form] at h1; done)
  | var s =>
    obtain ⟨s', rfl⟩ := Tp.is_var (t := v) h1.symm
    simp only [Tp.nam] at h2; subst h2
    exact .inl ⟨rfl, rfl⟩
  | con s =>
    obtain ⟨s', rfl⟩ := Tp.is_con (t := v) h1.symm
    simp only [Tp.nam] at h2; subst h2
    exact .inl ⟨rfl, rfl⟩

theorem one_step {l : Kn} (h : Ok l) (hfl : FlatK l) {a b : Tp} (ha : flat a) (hb : flat b)
    (ih : ∀ u v, Lk l a u → Lk l b v → ∀ a1 a2 b1 b2, u = .app a1 a2 → v = .app b1 b2 → (∃ e l1, OneS l a1 b1 e l1 ∧ OneOk l a1 b1 e l1 ∧ (e = 0 → ∃ e2 l2, OneS l1 a2 b2 e2 l2 ∧ OneOk l1 a2 b2 e2 l2))) :
    ∃ e l', OneS l a b e l' ∧ OneOk l a b e l' := by
  obtain ⟨u, hu, hL1⟩ := look_ex h a
  obtain ⟨v, hv, hL2⟩ := look_ex h b
  have huf : flat u := hu.keep flat ha hfl
  have hvf : flat v := hv.keep flat hb hfl
  by_cases hum : u.form = 1
  · obtain ⟨n, rfl⟩ := Tp.is_mt hum
    refine ⟨_, _, OneS.of_look hu hv (bind_s h hfl hu.unknown (fun m e => hv.stop m e) hvf), fun b1 b2 k => ?_⟩
    have hB := bind_ok h hu.unknown (fun m e => hv.stop m e) b1 b2 k
    have hL1 := hL1 b1 b2 k
    have hL2 := hL2 b1 b2 k
    generalize bindF l n v = q at *
    refine callsG_of_wcx (first := []) (cap := []) ttok mixed Tryd.func41 rfl (by rfl) rfl (Nat.le_of_ble_eq_true rfl) (by kernel_rfl) ?_
    refine .inr (.inr (.inl ⟨[0, 1], stH b1 b2 k l, _, rfl, by decide, hL1, ?_⟩))
    refine .inr (.inr (.inl ⟨[0, 1], stH b1 b2 k l, _, rfl, by decide, hL2, ?_⟩))
    refine ⟨by kernel_rfl, ?_⟩
    refine ⟨fun hbs => ?_, fun hbs => ?_⟩ <;> first | (exfalso; revert hbs; intro hbs; cases hbs; done) | skip
    refine .inr (.inr (.inr (.inl ⟨[0, 1], stH b1 b2 k l, stH b1 b2 k q.2, _, rfl, by decide, rfl, hB, ?_⟩)))
    exact ⟨rfl, rfl, rfl⟩
  by_cases hvm : v.form = 1
  · obtain ⟨n, rfl⟩ := Tp.is_mt hvm
    refine ⟨_, _, OneS.of_look hu hv ((bind_s h hfl hv.unknown (fun m e => hu.stop m e) huf).symm (.bindR hv.unknown (fun m e => hum (by rw [e]; rfl)))), fun b1 b2 k => ?_⟩
    have hB := bind_ok h hv.unknown (fun m e => hu.stop m e) b1 b2 k
    have hL1 := hL1 b1 b2 k
    have hL2 := hL2 b1 b2 k
    generalize bindF l n u = q at *
    refine callsG_of_wcx (first := []) (cap := []) ttok mixed Tryd.func41 rfl (by rfl) rfl (Nat.le_of_ble_eq_true rfl) (by kernel_rfl) ?_
    refine .inr (.inr (.inl ⟨[0, 1], stH b1 b2 k l, _, rfl, by decide, hL1, ?_⟩))
    refine .inr (.inr (.inl ⟨[0, 1], stH b1 b2 k l, _, rfl, by decide, hL2, ?_⟩))
    refine ⟨by kernel_rfl, ?_⟩
    refine ⟨fun hbs => ?_, fun hbs => ?_⟩ <;> first | (exfalso; revert hbs; (simp [hum]); done) | skip
    refine ⟨fun hbs => ?_, fun hbs => ?_⟩ <;> first | (exfalso; revert hbs; intro hbs; cases hbs; done) | skip
    refine .inr (.inr (.inr (.inl ⟨[0, 1], stH b1 b2 k l, stH b1 b2 k q.2, _, rfl, by decide, rfl, hB, ?_⟩)))
    exact ⟨rfl, rfl, rfl⟩
  have hum' : ∀ m, u ≠ .mt m := fun m e => hum (by rw [e]; rfl)
  have hvm' : ∀ m, v ≠ .mt m := fun m e => hvm (by rw [e]; rfl)
  have hu5 : u.form ≠ 5 := fun e => by obtain ⟨s, x, rfl⟩ := Tp.is_all e; exact huf
  by_cases hff : u.form = v.form
  rotate_left
  · refine ⟨31, l, OneS.of_look hu hv (apart_s h hfl hum' hvm' (.inl hff)), fun b1 b2 k => ?_⟩
    have hL1 := hL1 b1 b2 k
    have hL2 := hL2 b1 b2 k
    refine callsG_of_wcx (first := []) (cap := []) ttok mixed Tryd.func41 rfl (by rfl) rfl (Nat.le_of_ble_eq_true rfl) (by kernel_rfl) ?_
    refine .inr (.inr (.inl ⟨[0, 1], stH b1 b2 k l, _, rfl, by decide, hL1, ?_⟩))
    refine .inr (.inr (.inl ⟨[0, 1], stH b1 b2 k l, _, rfl, by decide, hL2, ?_⟩))
    refine ⟨by kernel_rfl, ?_⟩
    refine ⟨fun hbs => ?_, fun hbs => ?_⟩ <;> first | (exfalso; revert hbs; (simp [hum]); done) | skip
    refine ⟨fun hbs => ?_, fun hbs => ?_⟩ <;> first | (exfalso; revert hbs; (simp [hvm]); done) | skip
    refine ⟨fun hbs => ?_, fun hbs => ?_⟩ <;> first | (exfalso; revert hbs; (simp [hff]); done) | skip
    exact ⟨rfl, rfl, rfl⟩
  by_cases hnn : u.nam = v.nam
  rotate_left
  · refine ⟨31, l, OneS.of_look hu hv (apart_s h hfl hum' hvm' (.inr hnn)), fun b1 b2 k => ?_⟩
    have hL1 := hL1 b1 b2 k
    have hL2 := hL2 b1 b2 k
    refine callsG_of_wcx (first := []) (cap := []) ttok mixed Tryd.func41 rfl (by rfl) rfl (Nat.le_of_ble_eq_true rfl) (by kernel_rfl) ?_
    refine .inr (.inr (.inl ⟨[0, 1], stH b1 b2 k l, _, rfl, by decide, hL1, ?_⟩))
    refine .inr (.inr (.inl ⟨[0, 1], stH b1 b2 k l, _, rfl, by decide, hL2, ?_⟩))
    refine ⟨by kernel_rfl, ?_⟩
    refine ⟨fun hbs => ?_, fun hbs => ?_⟩ <;> first | (exfalso; revert hbs; (simp [hum]); done) | skip
    refine ⟨fun hbs => ?_, fun hbs => ?_⟩ <;> first | (exfalso; revert hbs; (simp [hvm]); done) | skip
    refine ⟨fun hbs => ?_, fun hbs => ?_⟩ <;> first | (exfalso; revert hbs; (simp [hff]); done) | skip
    refine ⟨fun hbs => ?_, fun hbs => ?_⟩ <;> first | (exfalso; revert hbs; (simp [hu5]); done) | skip
    refine ⟨fun hbs => ?_, fun hbs => ?_⟩ <;> first | (exfalso; revert hbs; (simp [hnn]); done) | skip
    exact ⟨rfl, rfl, rfl⟩
  rcases form_args hum' huf hvm' hvf hff hnn with ⟨rfl, hargs⟩ | ⟨a1, a2, c1, c2, rfl, rfl⟩
  · refine ⟨0, l, OneS.of_look hu hv (equal_s h hfl u hum' hargs), fun b1 b2 k => ?_⟩
    have hL1 := hL1 b1 b2 k
    have hL2 := hL2 b1 b2 k
    have hea : u.eArgs = [] := by rw [u.eArgs_eq, hargs]; rfl
    refine callsG_of_wcx (first := []) (cap := []) ttok mixed Tryd.func41 rfl (by rfl) rfl (Nat.le_of_ble_eq_true rfl) (by kernel_rfl) ?_
    refine .inr (.inr (.inl ⟨[0, 1], stH b1 b2 k l, _, rfl, by decide, hL1, ?_⟩))
    refine .inr (.inr (.inl ⟨[0, 1], stH b1 b2 k l, _, rfl, by decide, hL2, ?_⟩))
    refine ⟨by kernel_rfl, ?_⟩
    refine ⟨fun hbs => ?_, fun hbs => ?_⟩ <;> first | (exfalso; revert hbs; (simp [hum]); done) | skip
    refine ⟨fun hbs => ?_, fun hbs => ?_⟩ <;> first | (exfalso; revert hbs; (simp [hum]); done) | skip
    refine ⟨fun hbs => ?_, fun hbs => ?_⟩ <;> first | (exfalso; revert hbs; (simp); done) | skip
    refine ⟨fun hbs => ?_, fun hbs => ?_⟩ <;> first | (exfalso; revert hbs; (simp [hu5]); done) | skip
    refine ⟨fun hbs => ?_, fun hbs => ?_⟩ <;> first | (exfalso; revert hbs; (simp); done) | skip
    refine ⟨Unit, fun _ => { vs := [(59, sv 0), (60, sv 0)], hp := stH b1 b2 k l }, fun _ => 0, (), ⟨⟨svc (by rw [hea]; rfl), rfl, trivial⟩, trivial, rfl⟩, ?_⟩
    rintro ⟨⟩
    refine ⟨fun hbs => ?_, fun hbs => ?_⟩ <;> first | (exfalso; revert hbs; intro hbs; cases hbs; done) | skip
    exact ⟨rfl, rfl, rfl⟩
  · obtain ⟨e1, l1, s1, k1, r1⟩ := ih _ _ hu hv a1 a2 c1 c2 rfl rfl
    have start : ∀ (e : Int) (l' : Kn) (L : Nat → Kn) (I : Nat → Prop), L 0 = l → I 0 → (∀ i, I i → i ≤ 2) → (∀ i x y, I i → i < 2 → ([a1, a2][i]? = some x) → ([c1, c2][i]? = some y) → ∃ ei, OneOk (L i) x y ei (L (i + 1)) ∧ ((ei = 0 ∧ I (i + 1)) ∨ (ei ≠ 0 ∧ ei = e ∧ L (i + 1) = l'))) → (I 2 → e = 0 ∧ L 2 = l') → OneOk l a b e l' := fun e l' L I hL0 hI0 hI2 hst hfin b1 b2 k => by
      have hL1 := hL1 b1 b2 k
      have hL2 := hL2 b1 b2 k
      refine callsG_of_wcx (first := []) (cap := []) ttok mixed Tryd.func41 rfl (by rfl) rfl (Nat.le_of_ble_eq_true rfl) (by kernel_rfl) ?_
      refine .inr (.inr (.inl ⟨[0, 1], stH b1 b2 k l, _, rfl, by decide, hL1, ?_⟩))
      refine .inr (.inr (.inl ⟨[0, 1], stH b1 b2 k l, _, rfl, by decide, hL2, ?_⟩))
      refine ⟨by kernel_rfl, ?_⟩
      refine ⟨fun hbs => ?_, fun hbs => ?_⟩ <;> first | (exfalso; revert hbs; intro hbs; cases hbs; done) | skip
      refine ⟨fun hbs => ?_, fun hbs => ?_⟩ <;> first | (exfalso; revert hbs; intro hbs; cases hbs; done) | skip
      refine ⟨fun hbs => ?_, fun hbs => ?_⟩ <;> first | (exfalso; revert hbs; intro hbs; cases hbs; done) | skip
      refine ⟨fun hbs => ?_, fun hbs => ?_⟩ <;> first | (exfalso; revert hbs; intro hbs; cases hbs; done) | skip
      refine ⟨fun hbs => ?_, fun hbs => ?_⟩ <;> first | (exfalso; revert hbs; (simp [Tp.nam]); done) | skip
      refine ⟨{i : Nat // I i}, fun i => { vs := [(0, .v (sP b1)), (4, .box 0 (eTy (.app a1 a2))), (5, .box 0 (eTy (.app c1 c2))), (59, sv 2), (60, sv (i.1 : Nat))], hp := stH b1 b2 k (L i.1) }, fun i => 2 - i.1, ⟨0, hI0⟩, ⟨⟨rfl, rfl, rfl, rfl, rfl, trivial⟩, trivial, by simp only; rw [hL0]; rfl⟩, ?_⟩
      rintro ⟨i, hi⟩
      refine ⟨fun hlt => ?_, fun hge => ?_⟩
      · have hlt : i < 2 := by have hlt := of_decide_eq_true hlt; simp only at hlt; omega
        obtain ⟨x, hx⟩ : ∃ x, [a1, a2][i]? = some x := ⟨_, List.getElem?_eq_getElem (by simpa using hlt)⟩
        obtain ⟨y, hy⟩ : ∃ y, [c1, c2][i]? = some y := ⟨_, List.getElem?_eq_getElem (by simpa using hlt)⟩
        obtain ⟨ei, hk, hres⟩ := hst i x y hi hlt hx hy
        have hk := hk b1 b2 k
        have hg1 : (eTys [a1, a2])[i]? = some (eTy x) := by unfold eTys; rw [List.getElem?_map, hx]; rfl
        have hg2 : (eTys [c1, c2])[i]? = some (eTy y) := by unfold eTys; rw [List.getElem?_map, hy]; rfl
        refine ⟨_, by omega, hg1, rfl, ?_⟩
        refine ⟨_, by omega, hg2, rfl, ?_⟩
        refine .inr (.inr (.inr ⟨[0, 1], stH b1 b2 k (L i), stH b1 b2 k (L (i + 1)), _, rfl, by decide, rfl, hk, ?_⟩))
        refine ⟨by kernel_rfl, ?_⟩
        rcases hres with ⟨rfl, hI⟩ | ⟨hne, rfl, hLl⟩
        · refine ⟨fun hbs => ?_, fun hbs => ?_⟩ <;> first | (exfalso; revert hbs; (simp); done) | skip
          exact ⟨⟨i + 1, hI⟩, by simp; omega, ⟨rfl, rfl, rfl, rfl, svc (wrap_succ (k := i) (by omega)), trivial⟩, trivial, rfl⟩
        · refine ⟨fun hbs => ?_, fun hbs => ?_⟩ <;> first | (exfalso; revert hbs; (simp [hne]); done) | skip
          rw [← hLl]
          exact ⟨rfl, rfl, rfl⟩
      · have hge : i = 2 := by have hge := of_decide_eq_false hge; have := hI2 i hi; simp only at hge; omega
        subst hge
        obtain ⟨rfl, hLl⟩ := hfin hi
        rw [← hLl]
        exact ⟨rfl, rfl, rfl⟩
    by_cases he : e1 = 0
    · subst he
      obtain ⟨e2, l2, s2, k2⟩ := r1 rfl
      refine ⟨e2, l2, OneS.of_look hu hv (app_s2 s1 s2), ?_⟩
      refine start e2 l2 (fun i => match i with | 0 => l | 1 => l1 | _ => l2) (fun i => i ≤ 1 ∨ (e2 = 0 ∧ i = 2)) rfl (.inl (by omega)) (fun i hi => by omega) (fun i x y hi hlt hx hy => ?_) (fun h2 => ⟨by omega, rfl⟩)
      match i, hlt with
      | 0, _ =>
        simp at hx hy; subst hx; subst hy
        exact ⟨0, k1, .inl ⟨rfl, .inl (by omega)⟩⟩
      | 1, _ =>
        simp at hx hy; subst hx; subst hy
        refine ⟨e2, k2, ?_⟩
        by_cases h2 : e2 = 0
        · exact .inl ⟨h2, .inr ⟨h2, rfl⟩⟩
        · exact .inr ⟨h2, rfl, rfl⟩
    · refine ⟨e1, l1, OneS.of_look hu hv (app_s1 s1 he), ?_⟩
      refine start e1 l1 (fun i => match i with | 0 => l | _ => l1) (fun i => i = 0) rfl rfl (fun i hi => by omega) (fun i x y hi hlt hx hy => ?_) (fun h2 => by omega)
      subst hi
      simp at hx hy; subst hx; subst hy
      exact ⟨e1, k1, .inr ⟨he, rfl, rfl⟩⟩

theorem one_ex (U : List Int) : ∀ (c s : Nat) (l : Kn) (a b : Tp), cnt U l ≤ c → tsz (fl l a) ≤ s → Ok l → FlatK l → flat a → flat b → ClosedK U l → (∀ m ∈ mvs a, m ∈ U) → (∀ m ∈ mvs b, m ∈ U) → ∃ e l', OneS l a b e l' ∧ OneOk l a b e l' := by
  intro c
  induction c using Nat.strongRecOn with
  | _ c ihc =>
    intro s
    induction s using Nat.strongRecOn with
    | _ s ihs =>
      intro l a b hc hs h hfl ha hb hU hUa hUb
      refine one_step h hfl ha hb (fun u v hu hv a1 a2 b1 b2 eu ev => ?_)
      subst eu; subst ev
      have huf : flat (.app a1 a2) := hu.keep flat ha hfl
      have hvf : flat (.app b1 b2) := hv.keep flat hb hfl
      have huU := hu.keep (fun t => ∀ m ∈ mvs t, m ∈ U) hUa (fun q hq => (hU q hq).2)
      have hvU := hv.keep (fun t => ∀ m ∈ mvs t, m ∈ U) hUb (fun q hq => (hU q hq).2)
      have hsz : tsz (fl l a) = tsz (fl l a1) + tsz (fl l a2) := by rw [← hu.same, fl_app]; rfl
      have p1 := tsz_pos (fl l a1)
      have p2 := tsz_pos (fl l a2)
      obtain ⟨e1, l1, s1, k1⟩ := ihs (tsz (fl l a1)) (by omega) l a1 b1 hc (Nat.le_refl _) h hfl huf.1 hvf.1 hU (fun m hm => huU m (by simp [mvs, hm])) (fun m hm => hvU m (by simp [mvs, hm]))
      refine ⟨e1, l1, s1, k1, fun _ => ?_⟩
      have hU1 := s1.cl U hU (fun m hm => huU m (by simp [mvs, hm])) (fun m hm => hvU m (by simp [mvs, hm]))
      have r2 : ∀ m ∈ mvs a2, m ∈ U := fun m hm => huU m (by simp [mvs, hm])
      have r3 : ∀ m ∈ mvs b2, m ∈ U := fun m hm => hvU m (by simp [mvs, hm])
      obtain ⟨sx, hsx⟩ := s1.pre
      by_cases he : sx = []
      · have : l1 = l := by rw [hsx, he, List.append_nil]
        subst this
        exact ihs (tsz (fl l1 a2)) (by omega) l1 a2 b2 hc (Nat.le_refl _) h hfl huf.2 hvf.2 hU r2 r3
      · have hok := s1.ok
        rw [hsx] at hok hU1
        have hlt := cnt_lt he hok hU1
        rw [← hsx] at hlt hU1
        exact ihc (cnt U l1) (by omega) (tsz (fl l1 a2)) l1 a2 b2 (Nat.le_refl _) (Nat.le_refl _) s1.ok s1.flat huf.2 hvf.2 hU1 r2 r3
/-- Two types become one, or not. -/
theorem one_ok {l : Kn} (h : Ok l) (hfl : FlatK l) {a b : Tp} (ha : flat a) (hb : flat b) : ∃ e l', OneS l a b e l' ∧ OneOk l a b e l' := by
  refine one_ex (dom l ++ (l.flatMap fun q => mvs q.2) ++ mvs a ++ mvs b) _ _ l a b (Nat.le_refl _) (Nat.le_refl _) h hfl ha hb (fun q hq => ⟨?_, fun m hm => ?_⟩) (fun m hm => by simp [hm]) (fun m hm => by simp [hm])
  · simp only [List.mem_append]
    exact .inl (.inl (.inl (List.mem_map.2 ⟨q, hq, rfl⟩)))
  · simp only [List.mem_append]
    exact .inl (.inl (.inr (List.mem_flatMap.2 ⟨q, hq, hm⟩)))
end Go.Proofs.YtigifkjcghkiiaaDoor

namespace Go.Proofs.YtigifkjcghkiiaaDoor
open Go Fp
set_option maxRecDepth 10000
set_option maxHeartbeats 16000000
set_option linter.unusedVariables false
set_option linter.unusedSimpArgs false

section
variable {P : Program} (w : World)
theorem run_equalIn_map_nil (d : Nat) (t k e : TypeId) (p : Option Nat) (h : P.underlying t = some (.map k e)) :
    (Op.equalIn (d + 1) t (.map p) (.map none)).run P w = .ok p.isNone w := by
  cases p <;> simp [Op.equalIn, run_underlying h]
theorem run_eql_map_nil (t k e : TypeId) (p : Option Nat) (h : P.underlying t = some (.map k e)) :
    (binOp .eql t (.map p) (.map none)).run P w = .ok (.bool p.isNone) w := by
  simp only [binOp]
  simp [show Op.equal t (.map p) (.map none) = Op.equalIn (9999 + 1) t (.map p) (.map none) from rfl, run_equalIn_map_nil w 9999 t k e p h]
theorem run_typeAssert_map (t xT k e : TypeId) (v : Value) (h : P.underlying t = some (.map k e)) : (Instr.typeAssert (.iface t v) xT t false).run P w = .ok v w := by
  simp [Instr.typeAssert, run_underlying h, go_sem, Result.andThen]
theorem run_maps_clone {r : Nat} {es : Array MapEntry} {clock : Nat} (t : TypeId) (hb : w.heap[r]? = some (.map es clock)) :
    (Extern.MapsClone.clone #[.iface t (.map (some r))]).run P w = .ok (.iface t (.map (some w.heap.size))) (w.alloc (.map es clock)) := by
  have e : Extern.MapsClone.clone #[.iface t (.map (some r))] = (getObj r >>= fun o => match o with
      | .map entries clock => (newObj (.map entries clock) >>= fun n => pure (.iface t (.map (some n))))
      | _ => stuck "maps.clone: a map expected") := rfl
  rw [e]
  simp [MapKept.run_getObj_map hb, Result.andThen, go_sem]
end
theorem clone_calls (b : Nat) (es : Array MapEntry) (clock : Nat) (w : World) (hb : w.heap[b]? = some (.map es clock)) :
    Calls Tryd.prog 40 #[.map (some b)] w fun e w' => e = .returned (.map (some w.heap.size)) ∧ w' = w.alloc (.map es clock) := by
  have hq := fun w => run_eql_map_nil (P := Tryd.prog) w 66 3 27 (some b) (by kernel_rfl)
  go_enter Tryd.func40, Tryd.ntmps40
  go_wp2
  rw [run_callFunc_extern Tryd.func63 (by kernel_rfl) (by kernel_rfl) (by kernel_rfl) (e := Extern.MapsClone.clone) (by kernel_rfl), run_maps_clone w 66 hb]
  simp only [Result.andThen]
  rw [Oper.upon_value]
  go_wp2
  rw [run_typeAssert_map _ 66 20 3 27 _ (by kernel_rfl)]
  simp only [Result.andThen]
  rw [Oper.upon_value]
  go_wp2
  go_ret
  exact ⟨rfl, rfl⟩
end Go.Proofs.YtigifkjcghkiiaaDoor

namespace Go.Proofs.YtigifkjcghkiiaaDoor
open Go Fp
set_option maxRecDepth 10000
set_option maxHeartbeats 16000000
set_option linter.unusedVariables false
set_option linter.unusedSimpArgs false

theorem clone_ok (b2 : Nat) (L : List (AV × AV)) : CallsG Tryd.prog (fnv 40) [(b2, HO.mp L)] [.lit (.map (some b2))] [] fun r o h => o = 0 ∧ ∃ b3, r = .lit (.map (some b3)) ∧ h = [(b2, HO.mp L), (b3, HO.mp L)] := by
  refine ⟨40, #[], #[], rfl, ⟨Tryd.f40, Tryd.func40, rfl, rfl⟩, fun F w vs hfr hh ha hy => ?_⟩
  obtain ⟨es, clock, k1, k2, k3⟩ := hh.ok (b2, HO.mp L) (by simp)
  simp only at k1
  have hl := ha.len
  match vs, hl with
  | [v], _ =>
    have hv := (ha.rep 0 v _ rfl rfl).lit_eq.1
    subst hv
    have hyk : ykOf [Value.map (some b2)] [] = [] := rfl
    rw [hyk]
    refine (clone_calls b2 es clock w k1).mono fun e w' hpo => ?_
    obtain ⟨rfl, rfl⟩ := hpo
    have hgr := Grow.alloc w (.map es clock)
    have hnew : (w.alloc (.map es clock)).heap[w.heap.size]? = some (.map es clock) := World.heap_alloc_new w _
    have hlt : ∀ b, b < w.heap.size → b ≠ w.heap.size := fun b hb he => by omega
    have kp : Keeps F w (fun b => if b = w.heap.size then some 0 else F b) (w.alloc (.map es clock)) := hgr.keeps (fun b hb => by simp [hlt b hb])
    have hb2 := heap_lt k1
    have rp : RepPairs (fun b => if b = w.heap.size then some 0 else F b) (w.alloc (.map es clock)) es.toList L := ⟨k3.1, fun j e p he hp => ⟨(k3.2 j e p he hp).1.mono kp, (k3.2 j e p he hp).2.mono kp⟩⟩
    refine ⟨_, _, 0, _, fun b => if b = w.heap.size then some 0 else F b, rfl, ⟨rfl, w.heap.size, rfl, rfl⟩, Rep.lit _ rfl, fun sz h => by omega, ?_, fun b hb => .inl (by simp [hlt b hb]), fun b hb => ?_, ⟨?_, fun b hb => ?_, fun x hx => ?_⟩, fun b hb => ?_⟩
    · exact ⟨hgr.os, hgr.tape, hgr.output, hgr.size, fun b hb => .inr (.inr (hgr.block b hb))⟩
    · have hsz : (w.alloc (.map es clock)).heap.size = w.heap.size + 1 := by simp
      have : b ≠ w.heap.size := fun e => by omega
      simp only [this, if_false]
      exact hfr b (by omega)
    · simp [keys]; omega
    · simp [keys] at hb
      rcases hb with rfl | rfl
      · simp only [hlt _ hb2, if_false]; exact hh.shut _ (by simp [keys])
      · simp
    · simp at hx
      rcases hx with rfl | rfl
      · exact ⟨es, clock, (hgr.block b2 hb2).trans k1, k2, rp⟩
      · exact ⟨es, clock, hnew, k2, rp⟩
    · simp [keys] at hb
      rcases hb with rfl | rfl
      · exact .inl (by simp [keys])
      · exact .inr (Nat.le_refl _)
theorem unify_ok {l : Kn} (h : Ok l) (hfl : FlatK l) {a b : Tp} (ha : flat a) (hb : flat b) : ∃ e l', OneS l a b e l' ∧ (∀ b1 b2 k, CallsG Tryd.prog (fnv n_unify_Subst_Unify) (stH b1 b2 k l) [sP b1, eTy a, eTy b] [] fun r o hp => r = .lit (.int .i64 e) ∧ o = 0 ∧ ∃ b3, hp = stH b1 b3 k (if e = 0 then l' else l)) ∧
    (e = 0 → ∀ b1 b2 k, CallsG Tryd.prog (fnv n_unify_Subst_Unify) (stH b1 b2 k l) [sP b1, eTy a, eTy b] [] fun r o hp => r = .lit (.int .i64 0) ∧ o = 0 ∧ hp = stH b1 b2 k l') := by
  obtain ⟨e, l', hS, hO⟩ := one_ok h hfl ha hb
  refine ⟨e, l', hS, fun b1 b2 k => ?_, fun he b1 b2 k => ?_⟩
  rotate_left
  · subst he
    have hO := hO b1 b2 k
    have hC := clone_ok b2 (eKn l)
    refine CallsG.lessS (post := fun r o hp => r = .lit (.int .i64 0) ∧ ∃ b3, hp = stH b1 b2 k l' ++ [(b3, HO.mp (eKn l))]) ?_ (fun r o hp hpo => ?_)
    rotate_left
    · obtain ⟨h1, b3, rfl⟩ := hpo
      exact ⟨stH b1 b2 k l', List.sublist_append_left _ _, h1, rfl, rfl⟩
    refine callsG_of_wcx (first := []) (cap := []) ttok mixed Tryd.func14 rfl (by rfl) rfl (Nat.le_of_ble_eq_true rfl) (by kernel_rfl) ?_
    refine ⟨0, _, _, rfl, rfl, ?_⟩
    refine .inr (.inr (.inr (.inr (.inr (.inl ⟨[1], [(b2, HO.mp (eKn l))], [], _, rfl, by decide, rfl, hC, ?_⟩)))))
    rintro r' w hp ⟨rfl, b3, rfl, rfl⟩
    refine .inr (.inr (.inr (.inl ⟨[0, 1], stH b1 b2 k l, stH b1 b2 k l', _, rfl, by decide, rfl, hO, ?_⟩)))
    refine ⟨fun hbs => ?_, fun hbs => ?_⟩ <;> first | (exfalso; revert hbs; (simp); done) | skip
    exact ⟨rfl, b3, rfl⟩
  have hO := hO b1 b2 k
  have hC := clone_ok b2 (eKn l)
  refine CallsG.lessS (post := fun r o hp => r = .lit (.int .i64 e) ∧ ∃ b3, (e = 0 ∧ hp = stH b1 b2 k l' ++ [(b3, HO.mp (eKn l))]) ∨ (e ≠ 0 ∧ hp = [(b1, HO.cells [.lit (.int .i64 k), .lit (.map (some b3))]), (b2, HO.mp (eKn l')), (b3, HO.mp (eKn l))])) ?_ (fun r o hp hpo => ?_)
  rotate_left
  · obtain ⟨h1, b3, ⟨h2, rfl⟩ | ⟨h2, rfl⟩⟩ := hpo
    · exact ⟨stH b1 b2 k l', List.sublist_append_left _ _, h1, rfl, b2, by rw [if_pos h2]⟩
    · exact ⟨stH b1 b3 k l, (List.sublist_cons_self _ _).cons_cons _, h1, rfl, b3, by rw [if_neg h2]⟩
  refine callsG_of_wcx (first := []) (cap := []) ttok mixed Tryd.func14 rfl (by rfl) rfl (Nat.le_of_ble_eq_true rfl) (by kernel_rfl) ?_
  refine ⟨0, _, _, rfl, rfl, ?_⟩
  refine .inr (.inr (.inr (.inr (.inr (.inl ⟨[1], [(b2, HO.mp (eKn l))], [], _, rfl, by decide, rfl, hC, ?_⟩)))))
  rintro r' w hp ⟨rfl, b3, rfl, rfl⟩
  refine .inr (.inr (.inr (.inl ⟨[0, 1], stH b1 b2 k l, stH b1 b2 k l', _, rfl, by decide, rfl, hO, ?_⟩)))
  by_cases he : e = 0
  · subst he
    refine ⟨fun hbs => ?_, fun hbs => ?_⟩ <;> first | (exfalso; revert hbs; (simp); done) | skip
    exact ⟨rfl, b3, .inl ⟨rfl, rfl⟩⟩
  · refine ⟨fun hbs => ?_, fun hbs => ?_⟩ <;> first | (exfalso; revert hbs; (simp [he]); done) | skip
    refine ⟨rfl, 0, _, rfl, Nat.le_of_ble_eq_true rfl, ?_⟩
    exact ⟨rfl, b3, .inr ⟨he, rfl⟩⟩
theorem new_ok : CallsG Tryd.prog (fnv n_unify_New) [] [] [] fun r o hp => o = 0 ∧ ∃ b1 b2, r = sP b1 ∧ hp = stH b1 b2 0 [] := by
  refine CallsG.lessM (post := fun r o hp => ∃ b1 b2, r = sP b1 ∧ hp = [(b2, HO.mp (eKn [])), (b1, HO.cells [.lit (.int .i64 0), .lit (.map (some b2))])]) ?_ (fun r o hp hpo => ?_)
  rotate_left
  · obtain ⟨b1, b2, rfl, rfl⟩ := hpo
    refine ⟨stH b1 b2 0 [], fun x hx => ?_, fun hn => ?_, rfl, b1, b2, rfl, rfl⟩
    · simp at hx ⊢; rcases hx with rfl | rfl <;> simp
    · simp [keys] at hn ⊢; exact fun e => hn e.symm
  refine callsG_of_wcx (first := []) (cap := []) ttok mixed Tryd.func12 rfl (by rfl) rfl (Nat.le_of_ble_eq_true rfl) (by kernel_rfl) ?_
  intro b2
  refine .inr ⟨rfl, fun b1 => ?_⟩
  exact ⟨b1, b2, rfl, rfl⟩
theorem fresh_ok (l : Kn) (b1 b2 : Nat) (k : Nat) (hk : k < 1000000) : CallsG Tryd.prog (fnv n_unify_Subst_Fresh) (stH b1 b2 (k : Nat) l) [sP b1] [] fun r o hp => r = eTy (.mt ((k + 1 : Nat) : Int)) ∧ o = 0 ∧ hp = stH b1 b2 ((k + 1 : Nat) : Int) l := by
  have hM := meta_ok ((k + 1 : Nat) : Int)
  have hw := wrap_succ (k := k) (by omega)
  rw [← hw] at hM ⊢
  refine callsG_of_wcx (first := []) (cap := []) ttok mixed Tryd.func27 rfl (by rfl) rfl (Nat.le_of_ble_eq_true rfl) (by kernel_rfl) ?_
  refine ⟨0, _, _, rfl, rfl, ?_⟩
  refine ⟨rfl, 0, _, rfl, Nat.le_of_ble_eq_true rfl, ?_⟩
  refine ⟨0, _, _, rfl, rfl, ?_⟩
  refine .inl ⟨_, hM, ?_⟩
  exact ⟨rfl, rfl, rfl⟩
end Go.Proofs.YtigifkjcghkiiaaDoor

namespace Go.Proofs.YtigifkjcghkiiaaDoor
open Go Fp
set_option maxRecDepth 10000
set_option maxHeartbeats 16000000
set_option linter.unusedVariables false
set_option linter.unusedSimpArgs false

theorem buildF_ok (N : Nat) : ∀ (l : List Int) (d : Nat) (al : Bool), l.length = N → N < 1000 → (∀ x ∈ l, InR x) → d + N < 10000 →
    ∃ t rest, ACall Tryd.prog n_fugueref04_build [.sl (eIs l), .lit (.int .i64 (d : Nat)), .sb al] (.tup [eTy t, .sl (eIs rest)]) ∧ rest.length ≤ N ∧ (∀ x ∈ rest, InR x) ∧ good t ∧ t.sz + 8 * rest.length ≤ 8 * N + 1 ∧ (al = false → flat t) := by
  induction N using Nat.strongRecOn with
  | _ N ih =>
    intro l d al hl hN hr hd
    cases l with
    | nil =>
      refine ⟨.con ⟨#[73, 110, 116]⟩, [], ?_, by simp, by simp, show _ ∈ small6 by simp [small6], by simp at hl ⊢; subst hl; decide, fun _ => trivial⟩
      refine acall_of_wc ttok mixed Tryd.func46 rfl (by rfl) (Nat.le_of_ble_eq_true rfl) (by kernel_rfl) ?_
      refine ⟨fun h => rfl, fun h => by simp [eIs] at h⟩
    | cons x l =>
      simp at hl
      have hx := hr x (by simp)
      have hr' : ∀ y ∈ l, InR y := fun y hy => hr y (by simp [hy])
      obtain ⟨r, hrlt, hc⟩ := around_ok hx (m := 40) (by decide) (by decide)
      obtain ⟨a, rest, ha, ha1, ha2, ha3, ha4, haf⟩ := ih l.length (by omega) l (d + 1) al rfl (by omega) hr' (by omega)
      obtain ⟨b, last, hb, hb1, hb2, hb3, hb4, hbf⟩ := ih rest.length (by omega) rest (d + 1) al rfl (by omega) ha2 (by omega)
      have e10 : ((r : Int).tdiv 10) = ((r / 10 : Nat) : Int) := by simp
      have e5 : ((r : Int).tdiv 5) = ((r / 5 : Nat) : Int) := by simp
      have m10 : ((r : Int).tmod 10) = ((r % 10 : Nat) : Int) := rfl
      have m5 : ((r : Int).tmod 5) = ((r % 5 : Nat) : Int) := rfl
      obtain ⟨s1, hs1, hn⟩ := name_ok (n := ((r / 10 : Nat) : Int)) (by unfold InR; omega)
      obtain ⟨s2, hs2, hcn⟩ := con_ok (n := ((r / 5 : Nat) : Int)) (by unfold InR; omega)
      have w10 : IntKind.i64.wrap ((r : Int).tdiv 10) = ((r / 10 : Nat) : Int) := by rw [e10]; exact wrap_nat (by omega)
      have w5 : IntKind.i64.wrap ((r : Int).tdiv 5) = ((r / 5 : Nat) : Int) := by rw [e5]; exact wrap_nat (by omega)
      have w1 : IntKind.i64.wrap (1 + IntKind.i64.wrap ((r : Int).tdiv 10)) = ((1 + r / 10 : Nat) : Int) := by rw [w10, show (1 : Int) + ((r / 10 : Nat) : Int) = ((1 + r / 10 : Nat) : Int) by omega]; exact wrap_nat (by omega)
      have wd : IntKind.i64.wrap ((d : Int) + 1) = ((d + 1 : Nat) : Int) := wrap_succ (by omega)
      have hdr : (List.drop (Int.toNat 1) (List.take (Int.toNat ((eIs (x :: l)).length : Nat)) (eIs (x :: l)))) = eIs l := by simp [eIs]; exact List.take_of_length_le (by simp)
      rw [← w10] at hn
      rw [← w5] at hcn
      rw [← wd] at ha hb
      rw [← hdr] at ha
      obtain ⟨K, hK⟩ : ∃ K, K = if 4 < d then r % 5 else r % 10 := ⟨_, rfl⟩
      have hK10 : K < 10 := by rw [hK]; split <;> omega
      obtain ⟨out, hout⟩ : ∃ out, out = bOut K al ((1 + r / 10 : Nat) : Int) s1 s2 a b l rest last := ⟨_, rfl⟩
      refine ⟨out.1, out.2, ?_, ?_⟩
      · refine acall_of_wc ttok mixed Tryd.func46 rfl (by rfl) (Nat.le_of_ble_eq_true rfl) (by kernel_rfl) ?_
        refine ⟨fun h => by simp [eIs] at h; omega, fun _ => ?_⟩
        refine ⟨_, by decide, rfl, rfl, ?_⟩
        refine .inl ⟨_, hc, ?_⟩
        refine ⟨by decide, ?_, Int.le_refl _, .inr (uniI _), ?_⟩
        · show (1 : Int) ≤ ((eIs (x :: l)).length : Nat); simp [eIs]; omega
        refine ⟨by decide, ?_⟩
        refine ⟨fun h4 => ?_, fun h4 => ?_⟩
        · have h4 : 4 < d := by simp at h4; omega
          rw [if_pos h4] at hK
          refine ⟨by decide, ?_⟩
          refine ⟨fun h => ?_, fun h => ?_⟩
          · have h : K < 2 := by simp at h; omega
            refine ⟨by decide, .inl ⟨_, hn, ?_⟩⟩
            rw [hout, bOut, if_pos h, ← hdr]
            exact rfl
          have h2 : ¬ K < 2 := by simp at h; omega
          refine ⟨fun h => ?_, fun h => ?_⟩
          · have h : K < 3 := by simp at h; omega
            refine ⟨by decide, ?_⟩
            rw [hout, bOut, if_neg h2, if_pos h, ← w1, ← hdr]
            exact rfl
          have h3 : ¬ K < 3 := by simp at h; omega
          refine ⟨fun h => ?_, fun h => ?_⟩
          · have h : K < 5 := by simp at h; omega
            refine ⟨by decide, .inl ⟨_, hcn, ?_⟩⟩
            rw [hout, bOut, if_neg h2, if_neg h3, if_pos h, ← hdr]
            exact rfl
          · simp at h; omega
        · have h4 : ¬ 4 < d := by simp at h4; omega
          rw [if_neg h4] at hK
          refine ⟨fun h => ?_, fun h => ?_⟩
          · have h : K < 2 := by simp at h; omega
            refine ⟨by decide, .inl ⟨_, hn, ?_⟩⟩
            rw [hout, bOut, if_pos h, ← hdr]
            exact rfl
          have h2 : ¬ K < 2 := by simp at h; omega
          refine ⟨fun h => ?_, fun h => ?_⟩
          · have h : K < 3 := by simp at h; omega
            refine ⟨by decide, ?_⟩
            rw [hout, bOut, if_neg h2, if_pos h, ← w1, ← hdr]
            exact rfl
          have h3 : ¬ K < 3 := by simp at h; omega
          refine ⟨fun h => ?_, fun h => ?_⟩
          · have h : K < 5 := by simp at h; omega
            refine ⟨by decide, .inl ⟨_, hcn, ?_⟩⟩
            rw [hout, bOut, if_neg h2, if_neg h3, if_pos h, ← hdr]
            exact rfl
          have h5 : ¬ K < 5 := by simp at h; omega
          refine .inl ⟨_, ha, ?_⟩
          have fin : (Go.Proofs.YtigifkjcghkiiaaDoor.bOut K al ((1 + r / 10 : Nat) : Int) s1 s2 a b l rest last) = (if K = 9 ∧ al = true then (.all s1 a, rest) else if K < 8 then (.app (.app (.con arrow) a) b, last) else (.app a b, last)) := by
            rw [bOut, if_neg h2, if_neg h3, if_neg h5]
          refine ⟨fun h => ?_, fun h => ?_⟩
          · have h9 : K = 9 := by simp at h; omega
            refine ⟨fun hal => ?_, fun hal => ?_⟩
            · refine ⟨by decide, .inl ⟨_, hn, ?_⟩⟩
              rw [hout, fin, if_pos ⟨h9, hal⟩]
              exact rfl
            · refine .inl ⟨_, hb, ?_⟩
              refine ⟨fun h => by simp at h; omega, fun h => ?_⟩
              refine .inl ⟨_, app_ok a b, ?_⟩
              rw [hout, fin, if_neg (by rw [hal]; simp), if_neg (by omega)]
              exact rfl
          · have h9 : ¬ K = 9 := by simp at h; omega
            refine .inl ⟨_, hb, ?_⟩
            rw [hout, fin, if_neg (fun h => h9 h.1)]
            refine ⟨fun h => ?_, fun h => ?_⟩
            · rw [if_pos (by simp at h; omega)]
              refine .inl ⟨_, reffun_ok a b, ?_⟩
              exact rfl
            · rw [if_neg (by simp at h; omega)]
              refine .inl ⟨_, app_ok a b, ?_⟩
              exact rfl
      · rw [hout, bOut]
        split
        · exact ⟨by simp; omega, hr', hs1, by simp [Tp.sz]; omega, fun _ => trivial⟩
        split
        · exact ⟨by simp; omega, hr', ⟨1 + r / 10, rfl, by omega⟩, by simp [Tp.sz]; omega, fun _ => trivial⟩
        split
        · exact ⟨by simp; omega, hr', hs2, by simp [Tp.sz]; omega, fun _ => trivial⟩
        split
        · rename_i hal
          exact ⟨by simp; omega, ha2, ⟨hs1, ha3⟩, by simp [Tp.sz]; omega, fun h => by rw [h] at hal; simp at hal⟩
        split
        · exact ⟨by simp; omega, hb2, ⟨⟨show _ ∈ small6 by simp [small6], ha3⟩, hb3⟩, by simp [Tp.sz]; omega, fun h => ⟨⟨trivial, haf h⟩, hbf h⟩⟩
        · exact ⟨by simp; omega, hb2, ⟨ha3, hb3⟩, by simp [Tp.sz]; omega, fun h => ⟨haf h, hbf h⟩⟩

theorem plain_ok {l : List Int} (hl : l.length < 9223372036854775808) (hr : ∀ x ∈ l, InR x) : ∃ t : Tp, ACall Tryd.prog n_fugueref04_Plain [.sl (eIs l)] (eTy t) ∧ good t ∧ flat t ∧ t.sz ≤ 193 := by
  obtain ⟨t, rest, h1, h2, h3, h4, h5, h6⟩ := buildF_ok (l.take 24).length (l.take 24) 0 false rfl (by simp; omega) (fun x hx => hr x (List.mem_of_mem_take hx)) (by simp; omega)
  refine ⟨t, ?_, h4, h6 rfl, by simp at h5; omega⟩
  refine acall_of_wcx ttok mixed Tryd.func18 rfl (by rfl) (Nat.le_of_ble_eq_true rfl) (by kernel_rfl) ?_
  refine .inl ⟨_, ints_ok (n := 24) hl (by decide), ?_⟩
  refine .inl ⟨_, h1, ?_⟩
  exact rfl
theorem rest_ok {l : List Int} (hl : l.length < 9223372036854775808) (hr : ∀ x ∈ l, InR x) : ∃ m : List Int, ACall Tryd.prog n_fugueref04_Rest [.sl (eIs l)] (.sl (eIs m)) ∧ m.length ≤ 24 ∧ ∀ x ∈ m, InR x := by
  obtain ⟨t, rest, h1, h2, h3, h4, h5, h6⟩ := buildF_ok (l.take 24).length (l.take 24) 0 true rfl (by simp; omega) (fun x hx => hr x (List.mem_of_mem_take hx)) (by simp; omega)
  refine ⟨rest, ?_, by simp at h2; omega, h3⟩
  refine acall_of_wcx ttok mixed Tryd.func39 rfl (by rfl) (Nat.le_of_ble_eq_true rfl) (by kernel_rfl) ?_
  refine .inl ⟨_, ints_ok (n := 24) hl (by decide), ?_⟩
  refine .inl ⟨_, h1, ?_⟩
  exact rfl
theorem pair_ok {l : List Int} (hl : l.length < 9223372036854775808) (hr : ∀ x ∈ l, InR x) : ∃ a b : Tp, ACall Tryd.prog n_fugueref09_Pair [.sl (eIs l)] (.tup [eTy a, eTy b]) ∧ (good a ∧ flat a ∧ a.sz ≤ 193) ∧ good b ∧ flat b ∧ b.sz ≤ 193 := by
  obtain ⟨a, h1, h2⟩ := plain_ok hl hr
  obtain ⟨m, k1, k2, k3⟩ := rest_ok hl hr
  obtain ⟨b, j1, j2⟩ := plain_ok (l := m) (by omega) k3
  refine ⟨a, b, ?_, h2, j2⟩
  refine acall_of_wcx ttok mixed Tryd.func13 rfl (by rfl) (Nat.le_of_ble_eq_true rfl) (by kernel_rfl) ?_
  refine .inl ⟨_, h1, ?_⟩
  refine .inl ⟨_, k1, ?_⟩
  refine .inl ⟨_, j1, ?_⟩
  exact rfl

/-- A state of what is known, as the laws come to it. -/
structure SOk (l : Kn) : Prop where
  ok : Ok l
  flat : FlatK l
  small : greatF l = false
  good : ∀ q ∈ l, good q.2 ∧ Go.Proofs.YtigifkjcghkiiaaDoor.good (.mt q.1)
theorem sok_nil : SOk [] := ⟨trivial, fun q hq => by simp at hq, rfl, fun q hq => by simp at hq⟩
theorem not_great {l : Kn} {θ : Int → Tp} (h : Solves θ l) (hs : ∀ n ∈ dom l, tsz (θ n) ≤ 500) : greatF l = false := by
  unfold greatF
  rw [List.any_eq_false]
  intro q hq
  have h1 := solves_fl h (.mt q.1)
  have h2 := tsz_sbt θ (fl l (.mt q.1))
  rw [h1] at h2
  have h3 := hs q.1 (List.mem_map.2 ⟨q, hq, rfl⟩)
  simp only [sbt] at h2
  unfold szc
  simp; omega
theorem small_sg {l : Kn} (h : greatF l = false) (n : Int) : tsz (sg l n) ≤ 500 := by
  by_cases hn : n ∈ dom l
  · obtain ⟨q, hq, rfl⟩ := List.mem_map.1 hn
    unfold greatF at h
    rw [List.any_eq_false] at h
    have := h q hq
    unfold szc at this
    simp at this
    show tsz (fl l (.mt q.1)) ≤ 500
    omega
  · rw [sg_unknown hn]; simp [tsz]
theorem tsz_mul {θ : Int → Tp} {k : Nat} (hk : 1 ≤ k) (h : ∀ n, tsz (θ n) ≤ k) : ∀ t : Tp, tsz (sbt θ t) ≤ k * tsz t
  | .mt n => by have := h n; simp only [sbt, tsz]; omega
  | .app a b => by have := tsz_mul hk h a; have := tsz_mul hk h b; simp only [sbt, tsz, Nat.mul_add]; omega
  | .all _ a => by have := tsz_mul hk h a; simp only [sbt, tsz, Nat.mul_add]; omega
  | .no => by simp only [sbt, tsz]; omega
  | .var _ => by simp only [sbt, tsz]; omega
  | .con _ => by simp only [sbt, tsz]; omega
theorem sz_tsz : ∀ t : Tp, t.sz + 1 ≤ 2 * tsz t ∧ tsz t ≤ t.sz
  | .app a b => by have := sz_tsz a; have := sz_tsz b; have := tsz_pos a; have := tsz_pos b; simp only [Tp.sz, tsz]; omega
  | .all _ a => by have := sz_tsz a; simp only [Tp.sz, tsz]; omega
  | .mt n => by simp [Tp.sz, tsz]
  | .no => by simp [Tp.sz, tsz]
  | .var _ => by simp [Tp.sz, tsz]
  | .con _ => by simp [Tp.sz, tsz]
theorem fl_size {l : Kn} (h : greatF l = false) {t : Tp} (ht : t.sz ≤ 400) : (fl l t).sz ≤ 400000 := by
  have h1 := tsz_mul (θ := sg l) (k := 500) (by decide) (small_sg h) t
  rw [← fl_sbt] at h1
  have := (sz_tsz (fl l t)).1
  have := (sz_tsz t).2
  omega
theorem fl_good {l : Kn} (h : SOk l) {t : Tp} (ht : good t) : good (fl l t) := by
  obtain ⟨k, hk⟩ := ap_fl h.ok t
  have go : ∀ (k : Nat) (t y : Tp), good t → ap l k t = some y → good y := fun k => by
    induction k with
    | zero => intro t y _ h; simp [ap] at h
    | succ k ih =>
      intro t y hg hy
      cases t with
      | mt n =>
        rw [ap] at hy
        split at hy
        · injection hy with hy; subst hy; exact hg
        · rename_i x hx
          exact ih x y (h.good _ (getK_some hx)).1 hy
      | app a b =>
        rw [ap] at hy
        split at hy
        · rename_i a' b' ha hb
          injection hy with hy; subst hy
          exact ⟨ih a a' hg.1 ha, ih b b' hg.2 hb⟩
        · cases hy
      | all s a =>
        rw [ap] at hy
        obtain ⟨a', ha, rfl⟩ := Option.map_eq_some_iff.1 hy
        exact ⟨hg.1, ih a a' hg.2 ha⟩
      | no => exact hg.elim
      | var s => injection (show some (Tp.var s) = some y from hy) with hy; subst hy; exact hg
      | con s => injection (show some (Tp.con s) = some y from hy) with hy; subst hy; exact hg
  exact go k t _ ht hk

/-- Two types become one, in a law. -/
theorem unify_law {l : Kn} (h : SOk l) {a b : Tp} (ga : good a) (gb : good b) (ha : flat a) (hb : flat b) : ∃ e l' l1, OneS l a b e l' ∧ l1 = (if e = 0 then l' else l) ∧ SOk l1 ∧
    (∀ b1 b2 k, CallsG Tryd.prog (fnv n_unify_Subst_Unify) (stH b1 b2 k l) [sP b1, eTy a, eTy b] [] fun r o hp => r = .lit (.int .i64 e) ∧ o = 0 ∧ ∃ b3, hp = stH b1 b3 k l1) ∧
    (e = 0 → ∀ b1 b2 k, CallsG Tryd.prog (fnv n_unify_Subst_Unify) (stH b1 b2 k l) [sP b1, eTy a, eTy b] [] fun r o hp => r = .lit (.int .i64 0) ∧ o = 0 ∧ hp = stH b1 b2 k l1) := by
  obtain ⟨e, l', hS, hC, hD⟩ := unify_ok h.ok h.flat ha hb
  refine ⟨e, l', _, hS, rfl, ?_, hC, fun he => ?_⟩
  · by_cases he : e = 0
    · rw [if_pos he]
      exact ⟨hS.ok, hS.flat, hS.small he h.small, hS.kp good (fun x y h => h) h.good ga gb⟩
    · rw [if_neg he]; exact h
  · rw [if_pos he]; exact hD he
end Go.Proofs.YtigifkjcghkiiaaDoor

namespace Go.Proofs.YtigifkjcghkiiaaDoor
open Go Fp
set_option maxRecDepth 10000
set_option maxHeartbeats 16000000
set_option linter.unusedVariables false
set_option linter.unusedSimpArgs false

abbrev sInt : ByteArray := ⟨#[73, 110, 116]⟩
theorem printInt_ok : ACall Tryd.prog n_types_Print [eTy (.con sInt)] (.lit (.string sInt)) :=
  tprint_ok (dec := fun _ => .empty) (fun _ => by simp) (.con sInt) (by simp [Tp.sz]) (by show sInt.size ≤ 4; decide) (fun n hn => by simp [mts] at hn)
theorem lives_ok : ACall Tryd.prog n_fuguelaw09_lives [] (.sb true) := by
  have gI : good (.con sInt) := by show sInt ∈ small6; simp [small6]
  have gm : ∀ k : Nat, k < 10 → good (.mt (k : Int)) := fun k hk => ⟨k, rfl, hk⟩
  have gA : good (.con arrow) := by show arrow ∈ small6; simp [small6]
  let A : Tp := .app (.app (.con arrow) (.mt 1)) (.mt 1)
  let B : Tp := .app (.app (.con arrow) (.con sInt)) (.mt 2)
  obtain ⟨e, l', l1, hS, hl1, hok, _, hU⟩ := unify_law sok_nil (a := A) (b := B) ⟨⟨gA, gm 1 (by decide)⟩, gm 1 (by decide)⟩ ⟨⟨gA, gI⟩, gm 2 (by decide)⟩ ⟨⟨trivial, trivial⟩, trivial⟩ ⟨⟨trivial, trivial⟩, trivial⟩
  have hsol := hS.least (fun _ => .con sInt) (fun n t h => by simp at h) rfl
  have he : e = 0 := by
    rcases hsol.2 with h | h
    · exact h
    · have h1 := hS.great h
      rw [not_great hsol.1 (fun n _ => by simp [tsz])] at h1; cases h1
  subst he
  rw [if_pos rfl] at hl1
  subst hl1
  have hU := hU rfl
  have hg := hS.good rfl
  simp only [A, B, fl_app, Tp.app.injEq] at hg
  have h1 : fl l1 (.mt 1) = .con sInt := by rw [hg.1.2, fl_sbt]; rfl
  have h2 : fl l1 (.mt 2) = .con sInt := by rw [← hg.2, h1]
  have hA1 := fun b1 b2 k => Apply_ok hok.ok (.mt 1) b1 b2 k
  have hA2 := fun b1 b2 k => Apply_ok hok.ok (.mt 2) b1 b2 k
  rw [h1] at hA1
  rw [h2] at hA2
  have hP := printInt_ok
  have hF1 := reffun_ok (.mt 1) (.mt 1)
  have hF2 := reffun_ok (.con sInt) (.mt 2)
  refine acall_of_wcx ttok mixed Tryd.func17 rfl (by rfl) (Nat.le_of_ble_eq_true rfl) (by kernel_rfl) ?_
  refine .inr (.inr (.inr (.inr (.inr (.inl ⟨[], [], [], _, rfl, List.nodup_nil, rfl, new_ok, ?_⟩)))))
  rintro r w hp ⟨rfl, b1, b2, rfl, rfl⟩
  have hU := hU b1 b2 2
  have hA1 := hA1 b1 b2 2
  have hA2 := hA2 b1 b2 2
  refine .inr (.inr (.inr (.inl ⟨[0, 1], stH b1 b2 0 [], stH b1 b2 1 [], _, rfl, by decide, rfl, fresh_ok [] b1 b2 0 (by decide), ?_⟩)))
  refine .inr (.inr (.inr (.inl ⟨[0, 1], stH b1 b2 1 [], stH b1 b2 2 [], _, rfl, by decide, rfl, fresh_ok [] b1 b2 1 (by decide), ?_⟩)))
  refine .inl ⟨_, hF1, ?_⟩
  refine .inl ⟨_, hF2, ?_⟩
  refine .inr (.inr (.inr ⟨[0, 1], stH b1 b2 2 [], stH b1 b2 2 l1, _, rfl, by decide, rfl, hU, ?_⟩))
  refine ⟨by kernel_rfl, ?_⟩
  refine ⟨fun hbs => ?_, fun hbs => ?_⟩ <;> first | (exfalso; revert hbs; intro hbs; cases hbs; done) | skip
  refine .inr (.inr (.inl ⟨[0, 1], stH b1 b2 2 l1, _, rfl, by decide, hA1, ?_⟩))
  refine .inl ⟨_, hP, ?_⟩
  refine ⟨fun hbs => ?_, fun hbs => ?_⟩ <;> first | (exfalso; revert hbs; (simp); done) | skip
  refine .inr (.inr (.inl ⟨[0, 1], stH b1 b2 2 l1, _, rfl, by decide, hA2, ?_⟩))
  refine .inl ⟨_, hP, ?_⟩
  exact rfl
end Go.Proofs.YtigifkjcghkiiaaDoor
