/- What is known, in memory; a number's type looked up; all that is known put in. No condition but that what is known came to be known one by one. -/
import Derived.Test.YtigifkjcghkiiaaDoorD
import Derived.Test.YtigifkjcghkiiaaDoorFpI
set_option linter.unusedSimpArgs false
set_option linter.unusedVariables false
namespace Go.Proofs.YtigifkjcghkiiaaDoor
open Go Fp
set_option maxRecDepth 10000
set_option maxHeartbeats 16000000
set_option linter.unusedVariables false
set_option linter.unusedSimpArgs false

abbrev sP (b : Nat) : AV := .lit (.pointer (some ⟨b, 0, none⟩))
def eKn (l : Kn) : List (AV × AV) := l.map fun q => (.lit (.int .i64 q.1), eTy q.2)
abbrev stH (b1 b2 : Nat) (n : Int) (l : Kn) : List (Nat × HO) := [(b1, HO.cells [.lit (.int .i64 n), .lit (.map (some b2))]), (b2, HO.mp (eKn l))]
theorem svc {n m : Int} (h : n = m) : SV.v (AV.lit (Value.int .i64 n)) = SV.v (AV.lit (Value.int .i64 m)) := by rw [h]
abbrev sv (n : Int) : SV := .v (.lit (.int .i64 n))

theorem eKn_keys (l : Kn) : ∀ p ∈ eKn l, keyLike (.lit (.int .i64 0)) p.1 := fun p hp => by
  obtain ⟨q, _, rfl⟩ := List.mem_map.1 hp
  exact rfl
theorem litInt_ne {a b : Int} (h : a ≠ b) : (AV.lit (.int .i64 a)) ≠ .lit (.int .i64 b) := fun e => by injection e with e; injection e with _ e; exact h e
/-- What a map says of a key. -/
theorem found_of (l : Kn) (n : Int) : (getK l n = none ∧ Fp.Found (eKn l) (.int .i64 n) none) ∨ ∃ j x, getK l n = some x ∧ Fp.Found (eKn l) (.int .i64 n) (some (j, eTy x)) := by
  induction l with
  | nil => exact .inl ⟨rfl, .no (by simp [eKn])⟩
  | cons q l ih =>
    obtain ⟨m, t⟩ := q
    by_cases h : m = n
    · subst h
      exact .inr ⟨0, t, by simp [getK], .yes 0 _ rfl (fun i hi => by omega)⟩
    · have e : getK ((m, t) :: l) n = getK l n := by unfold getK; rw [List.find?_cons, show (m == n) = false by simpa using h]
      rcases ih with ⟨h1, h2⟩ | ⟨j, x, h1, h2⟩
      · refine .inl ⟨e.trans h1, .no fun p hp => ?_⟩
        rcases List.mem_cons.1 (show p ∈ (AV.lit (.int .i64 m), eTy t) :: eKn l from hp) with rfl | hp
        · exact litInt_ne h
        · cases h2 with | no h2 => exact h2 p hp
      · refine .inr ⟨j + 1, x, e.trans h1, ?_⟩
        cases h2 with
        | yes _ _ h3 h4 =>
          refine .yes (j + 1) _ (by simpa [eKn] using h3) (fun i hi p hp => ?_)
          cases i with
          | zero =>
            have : p = (AV.lit (.int .i64 m), eTy t) := by simpa [eKn] using hp.symm
            rw [this]; exact litInt_ne h
          | succ i => exact h4 i (by omega) p (by simpa [eKn] using hp)

/-- What one comes to, who looks a number up as long as it is known. -/
structure Lk (l : Kn) (t u : Tp) : Prop where
  same : fl l u = fl l t
  stop : ∀ n, u = .mt n → n ∉ dom l
  fuel : ∀ k y, ap l k t = some y → ap l k u = some y
  own : (∀ n, t = .mt n → n ∉ dom l) → u = t
  keep : ∀ P : Tp → Prop, P t → (∀ q ∈ l, P q.2) → P u

theorem look_ex {l : Kn} (h : Ok l) (t : Tp) : ∃ u, Lk l t u ∧ ∀ b1 b2 n, CallsG Tryd.prog (fnv n_unify_Subst_look) (stH b1 b2 n l) [sP b1, eTy t] [] fun r o hp => r = eTy u ∧ o = 0 ∧ hp = stH b1 b2 n l := by
  -- the ways
  have way : ∀ (k : Nat) (t y : Tp), ap l k t = some y → ∃ u, Lk l t u ∧ ∃ W : Nat → Tp → Prop, W k t ∧ ∀ j x, W j x → (∀ n, x = .mt n → getK l n = none → x = u) ∧ ((∀ n, x ≠ .mt n) → x = u) ∧ ∀ n z, x = .mt n → getK l n = some z → ∃ i, i < j ∧ W i z := by
    intro k
    induction k with
    | zero => intro t y h; simp [ap] at h
    | succ k ih =>
      intro t y hy
      by_cases hm : ∃ n z, t = .mt n ∧ getK l n = some z
      · obtain ⟨n, z, rfl, hz⟩ := hm
        rw [ap, hz] at hy
        obtain ⟨u, ⟨k1, k2, k3, k4, k5⟩, W, w1, w2⟩ := ih z y hy
        refine ⟨u, ⟨?_, k2, fun j y' hj => ?_, fun hn => ?_, fun P _ hP => k5 P (hP _ (getK_some hz)) hP⟩, fun j x => W j x ∨ (j = k + 1 ∧ x = .mt n), .inr ⟨rfl, rfl⟩, ?_⟩
        · rw [k1, fl_mt, sg_known h n z (getK_some hz)]
        · cases j with
          | zero => simp [ap] at hj
          | succ j =>
            rw [ap, hz] at hj
            exact ap_mono (k3 j y' hj) (by omega)
        · exact absurd (List.mem_map.2 ⟨_, getK_some hz, rfl⟩) (hn n rfl)
        · rintro j x (hw | ⟨rfl, rfl⟩)
          · obtain ⟨a, b, c⟩ := w2 j x hw
            exact ⟨a, b, fun m z hm hz => let ⟨i, hi, hw⟩ := c m z hm hz; ⟨i, hi, .inl hw⟩⟩
          · refine ⟨fun m hm hg => ?_, fun hm => absurd rfl (hm n), fun m z' hm hz' => ?_⟩
            · injection hm with hm; subst hm; rw [hz] at hg; cases hg
            · injection hm with hm; subst hm; rw [hz] at hz'; injection hz' with hz'; subst hz'
              exact ⟨k, by omega, .inl w1⟩
      · refine ⟨t, ⟨rfl, fun n e => ?_, fun _ _ h => h, fun _ => rfl, fun _ h _ => h⟩, fun _ x => x = t, rfl, fun j x hx => ⟨fun _ _ _ => hx, fun _ => hx, fun n z e hz => ?_⟩⟩
        · rw [← getK_none]
          cases hg : getK l n with
          | none => rfl
          | some z => exact absurd ⟨n, z, e, hg⟩ hm
        · exact absurd ⟨n, z, hx ▸ e, hz⟩ hm
  obtain ⟨K, hK⟩ := ap_fl h t
  obtain ⟨u, hu, W, w1, w2⟩ := way K t _ hK
  refine ⟨u, hu, fun b1 b2 n => ?_⟩
  refine callsG_of_wcx (first := []) (cap := []) ttok mixed Tryd.func43 rfl (by rfl) rfl (Nat.le_of_ble_eq_true rfl) (by kernel_rfl) ?_
  refine ⟨{p : Nat × Tp // W p.1 p.2}, fun p => { vs := [(0, .v (sP b1)), (3, .box 0 (eTy p.1.2)), (4, .box 0 (eTy .no))], hp := stH b1 b2 n l }, fun p => p.1.1, ⟨(K, t), w1⟩, ⟨⟨rfl, rfl, rfl, trivial⟩, trivial, rfl⟩, ?_⟩
  rintro ⟨⟨j, x⟩, hx⟩
  obtain ⟨q1, q2, q3⟩ := w2 j x hx
  refine ⟨fun hf => ?_, fun hf => ?_⟩
  · have hf : x.form = 1 := of_decide_eq_true hf
    obtain ⟨m, rfl⟩ := Tp.is_mt hf
    rcases found_of l m with ⟨h1, h2⟩ | ⟨i, z, h1, h2⟩
    · have e := q1 m rfl h1
      subst e
      refine ⟨0, _, _, rfl, rfl, ?_⟩
      refine ⟨1, _, none, rfl, eKn_keys l, rfl, h2, ?_⟩
      refine ⟨by kernel_rfl, ?_⟩
      exact ⟨rfl, rfl, rfl⟩
    · obtain ⟨i', hi, hw⟩ := q3 m z rfl h1
      refine ⟨0, _, _, rfl, rfl, ?_⟩
      refine ⟨1, _, some (i, eTy z), rfl, eKn_keys l, rfl, h2, ?_⟩
      refine ⟨by kernel_rfl, ?_⟩
      exact ⟨⟨(i', z), hw⟩, hi, ⟨rfl, rfl, rfl, trivial⟩, trivial, rfl⟩
  · have hf : ¬ x.form = 1 := of_decide_eq_false hf
    obtain rfl := q2 (fun m e => hf (by rw [e]; rfl))
    exact ⟨rfl, rfl, rfl⟩
end Go.Proofs.YtigifkjcghkiiaaDoor

namespace Go.Proofs.YtigifkjcghkiiaaDoor
open Go Fp
set_option maxRecDepth 10000
set_option maxHeartbeats 16000000
set_option linter.unusedVariables false
set_option linter.unusedSimpArgs false

theorem each_ok {g : Fn} {xs ys : Array Value} {b1 b2 : Nat} {n : Int} {k : Kn} (f : Tp → Tp) (l : List Tp) (hl : l.length < 1000) (hc : ∀ x ∈ l, CallsG Tryd.prog (.func g xs ys) (stH b1 b2 n k) [eTy x] [] fun r o h => r = eTy (f x) ∧ o = 0 ∧ h = stH b1 b2 n k) :
    CallsG Tryd.prog (fnv n_unify_each) (stH b1 b2 n k) [.sl (eTys l), .lit (.func g xs ys)] [] fun r o h => r = .sl (eTys (l.map f)) ∧ o = 0 ∧ h = stH b1 b2 n k := by
  have hlen : (eTys l).length = l.length := by simp [eTys]
  refine CallsG.less0 (post := fun r o h => r = .sl (eTys (l.map f)) ∧ h = stH b1 b2 n k) ?_ (fun r o h hp => ⟨h, [], by simp, hp.1, rfl, hp.2⟩)
  refine callsG_of_wcx (first := []) (cap := []) ttok mixed Tryd.func44 rfl (by rfl) rfl (Nat.le_of_ble_eq_true rfl) (by kernel_rfl) ?_
  refine ⟨{k : Nat // k ≤ l.length}, fun i => { vs := [(1, .v (.lit (.func g xs ys))), (5, .v (.sl (eTys ((l.take i.1).map f)))), (8, .v (.sl (eTys l))), (9, sv (l.length : Nat)), (10, sv (i.1 : Nat))], ow := [(5, 0, 5)], hp := stH b1 b2 n k }, fun i => l.length - i.1, ⟨0, Nat.zero_le _⟩, ⟨⟨rfl, rfl, rfl, svc (by rw [hlen]), rfl, trivial⟩, ⟨trivial, trivial⟩, rfl⟩, ?_⟩
  rintro ⟨i, hi⟩
  refine ⟨fun h => ?_, fun h => ?_⟩
  · have h : i < l.length := by have h := of_decide_eq_true h; simp only at h; omega
    have hci := hc _ (List.getElem_mem h)
    have htk := List.take_succ_eq_append_getElem h
    refine ⟨_, by omega, getT h, rfl, ?_⟩
    refine .inr (.inr (.inl ⟨[0, 1], stH b1 b2 n k, _, rfl, by decide, hci, ?_⟩))
    refine ⟨by simp [eTys]; omega, uniT _, uniT [f l[i]], ?_⟩
    refine ⟨⟨i + 1, h⟩, by simp; omega, ⟨rfl, ?_, rfl, rfl, svc (wrap_succ (k := i) (by omega)), trivial⟩, ⟨rfl, trivial⟩, rfl⟩
    show SV.v (AV.sl (eTys ((l.take i).map f) ++ eTys [f l[i]])) = SV.v (AV.sl (eTys ((l.take (i + 1)).map f)))
    rw [htk, List.map_append, show ∀ a b, eTys (a ++ b) = eTys a ++ eTys b from fun a b => List.map_append]; rfl
  · have h : i = l.length := by have h := of_decide_eq_false h; simp only at h; omega
    subst h
    simp only [List.take_length]
    exact ⟨rfl, rfl⟩

abbrev fvA (b : Nat) : Value := .func (.func n_unify_Subst_Apply) #[.pointer (some ⟨b, 0, none⟩)] #[]
def ApplyOk (l : Kn) (t y : Tp) : Prop := ∀ b1 b2 n, CallsG Tryd.prog (fvA b1) (stH b1 b2 n l) [eTy t] [] fun r o h => r = eTy y ∧ o = 0 ∧ h = stH b1 b2 n l
/-- A type with parts put in the place of its own. -/
def withArgs (t : Tp) (l : List Tp) : Tp := match t, l with
  | .app _ _, [a, b] => .app a b
  | .all s _, [a] => .all s a
  | t, _ => t
theorem apply_step {l : Kn} (h : Ok l) (t : Tp) (f : Tp → Tp) (hc : ∀ u, Lk l t u → ∀ x ∈ u.args, ApplyOk l x (f x)) : ∃ u, Lk l t u ∧ ApplyOk l t (withArgs u (u.args.map f)) := by
  obtain ⟨u, hu, hL⟩ := look_ex h t
  refine ⟨u, hu, fun b1 b2 n => ?_⟩
  have hL := hL b1 b2 n
  have hE := each_ok (g := .func n_unify_Subst_Apply) (xs := #[.pointer (some ⟨b1, 0, none⟩)]) (ys := #[]) (b1 := b1) (b2 := b2) (n := n) (k := l) f u.args (by have := args_le u; omega) (fun x hx => hc u hu x hx b1 b2 n)
  rw [← u.eArgs_eq] at hE
  have hres : ∀ l : List Tp, l.length = u.args.length → eTy (withArgs u l) = .agg [.lit (.int .i64 u.form), .lit (.int .i64 u.num), .lit (.string u.nam), .sl (eTys l)] := fun l hl => by
    cases u with
    | app a b =>
      match l, hl with
      | [x, y], _ => rfl
    | all s a =>
      match l, hl with
      | [x], _ => rfl
    | no => match l, hl with | [], _ => rfl
    | mt m => match l, hl with | [], _ => rfl
    | var s => match l, hl with | [], _ => rfl
    | con s => match l, hl with | [], _ => rfl
  rw [hres _ (by simp)]
  refine callsG_of_wcx (first := [.pointer (some ⟨b1, 0, none⟩)]) (cap := []) ttok mixed Tryd.func16 rfl (by rfl) rfl (Nat.le_of_ble_eq_true rfl) (by kernel_rfl) ?_
  refine .inr (.inr (.inl ⟨[0, 1], stH b1 b2 n l, _, rfl, by decide, hL, ?_⟩))
  refine .inr ?_
  refine .inr (.inr (.inl ⟨[0, 1], stH b1 b2 n l, _, rfl, by decide, hE, ?_⟩))
  exact ⟨rfl, rfl, rfl⟩
end Go.Proofs.YtigifkjcghkiiaaDoor

namespace Go.Proofs.YtigifkjcghkiiaaDoor
open Go Fp
set_option maxRecDepth 10000
set_option maxHeartbeats 16000000
set_option linter.unusedVariables false
set_option linter.unusedSimpArgs false

theorem ap_eq {l : Kn} (h : Ok l) {k : Nat} {x y : Tp} (hk : ap l k x = some y) : y = fl l x := by
  obtain ⟨j, hj⟩ := ap_fl h x
  have h1 := ap_mono hk (Nat.le_max_left k j)
  have h2 := ap_mono hj (Nat.le_max_right k j)
  rw [h1] at h2; injection h2
/-- What is within a type that was looked up, is nearer. -/
theorem ap_args {l : Kn} {k : Nat} {u y : Tp} (hk : ap l k u = some y) : ∀ x ∈ u.args, ∃ j z, j < k ∧ ap l j x = some z := by
  cases k with
  | zero => simp [ap] at hk
  | succ k =>
    intro x hx
    cases u with
    | app a b =>
      rw [ap] at hk
      split at hk
      · rename_i a' b' ha hb
        simp only [Tp.args, List.mem_cons, List.not_mem_nil, or_false] at hx
        rcases hx with rfl | rfl
        · exact ⟨k, _, by omega, ha⟩
        · exact ⟨k, _, by omega, hb⟩
      · cases hk
    | all s a =>
      rw [ap] at hk
      obtain ⟨a', ha, _⟩ := Option.map_eq_some_iff.1 hk
      simp only [Tp.args, List.mem_cons, List.not_mem_nil, or_false] at hx
      subst hx
      exact ⟨k, _, by omega, ha⟩
    | _ => simp [Tp.args] at hx
theorem fl_args {l : Kn} {t u : Tp} (hu : Lk l t u) : withArgs u (u.args.map (fl l)) = fl l t := by
  rw [← hu.same]
  cases u with
  | app a b => rw [fl_app]; rfl
  | all s a => rw [fl_all]; rfl
  | mt n => rw [fl_mt, sg_unknown (hu.stop n rfl)]; rfl
  | no => rw [fl_sbt]; rfl
  | var s => rw [fl_sbt]; rfl
  | con s => rw [fl_sbt]; rfl
theorem apply_ok {l : Kn} (h : Ok l) (t : Tp) : ApplyOk l t (fl l t) := by
  have go : ∀ (k : Nat) (t y : Tp), ap l k t = some y → ApplyOk l t (fl l t) := fun k => by
    induction k using Nat.strongRecOn with
    | _ k ih =>
      intro t y hk
      obtain ⟨u, hu, hA⟩ := apply_step h t (fl l) (fun u hu x hx => by
        obtain ⟨j, z, hj, hz⟩ := ap_args (hu.fuel k y hk) x hx
        exact ih j hj x z hz)
      rw [fl_args hu] at hA
      exact hA
  obtain ⟨k, hk⟩ := ap_fl h t
  exact go k t _ hk
/-- As a method. -/
theorem Apply_ok {l : Kn} (h : Ok l) (t : Tp) (b1 b2 : Nat) (n : Int) : CallsG Tryd.prog (fnv n_unify_Subst_Apply) (stH b1 b2 n l) [sP b1, eTy t] [] fun r o hp => r = eTy (fl l t) ∧ o = 0 ∧ hp = stH b1 b2 n l := by
  have hA := apply_ok h t b1 b2 n
  obtain ⟨f, first, cap, he, hen, hcalls⟩ := hA
  injection he with h1 h2 h3
  injection h1 with h1
  subst h1; subst h2; subst h3
  refine ⟨_, #[], #[], rfl, hen, fun F w vs hfr hh ha hy => ?_⟩
  have hl := ha.len
  match vs, hl with
  | [v0, v1], _ =>
    have h0 := (ha.rep 0 v0 _ rfl rfl).lit_eq.1
    subst h0
    have := hcalls F w [v1] hfr hh ⟨rfl, fun i v a hv hav => ?_, fun i v sz _ ho => by simp at ho, by simp [ykOf]⟩ (by simp [ykOf])
    · simpa [ykOf] using this
    · match i with
      | 0 => exact ha.rep 1 v a (by simpa using hv) (by simpa using hav)
      | i + 1 => simp at hv

/-! ### within -/
abbrev cP (b : Nat) : Value := .pointer (some ⟨b, 0, none⟩)
abbrev fvW (c3 c4 : Nat) : Value := .func (.func 91) #[] #[cP c3, cP c4]
abbrev wiH (b1 b2 c3 c4 : Nat) (m n : Int) (l : Kn) : List (Nat × HO) := [(b1, HO.cells [.lit (.int .i64 m), .lit (.map (some b2))]), (b2, HO.mp (eKn l)), (c3, HO.cells [sP b1]), (c4, HO.cells [.lit (.int .i64 n)])]
def ixF {α : Type} (f : α → Bool) (l : List α) : Int := match l.findIdx? f with | some k => (k : Int) | none => -1
theorem ixF_any {α : Type} (f : α → Bool) (l : List α) : decide (0 ≤ ixF f l) = l.any f := by
  unfold ixF
  cases h : l.findIdx? f with
  | none =>
    rw [List.findIdx?_eq_none_iff] at h
    have : l.any f = false := by rw [List.any_eq_false]; intro x hx; simp [h x hx]
    rw [this]; rfl
  | some k =>
    obtain ⟨hk, h1, _⟩ := List.findIdx?_eq_some_iff_getElem.1 h
    have : l.any f = true := List.any_eq_true.2 ⟨_, List.getElem_mem hk, h1⟩
    rw [this]; simp
theorem ixF_at {α : Type} {f : α → Bool} {l : List α} {k : Nat} (h : k < l.length) (h1 : f l[k] = true) (h2 : ∀ j (hj : j < l.length), j < k → f l[j] = false) : ixF f l = k := by
  unfold ixF
  rw [show l.findIdx? f = some k from List.findIdx?_eq_some_iff_getElem.2 ⟨h, h1, fun j hj => by simp [h2 j (by omega) hj]⟩]
theorem ixF_no {α : Type} {f : α → Bool} {l : List α} (h : ∀ j (hj : j < l.length), f l[j] = false) : ixF f l = -1 := by
  unfold ixF
  rw [show l.findIdx? f = none from List.findIdx?_eq_none_iff.2 fun x hx => by obtain ⟨j, hj, rfl⟩ := List.mem_iff_getElem.1 hx; exact h j hj]

theorem indexW_ok {b1 b2 c3 c4 : Nat} {m n : Int} {k : Kn} (f : Tp → Bool) (l : List Tp) (hl : l.length < 1000) (hc : ∀ x ∈ l, CallsG Tryd.prog (fvW c3 c4) (wiH b1 b2 c3 c4 m n k) [eTy x] [] fun r o h => r = .sb (f x) ∧ o = 0 ∧ h = wiH b1 b2 c3 c4 m n k) :
    CallsG Tryd.prog (fnv n_slices_IndexFunc_apiTypeapiType) (wiH b1 b2 c3 c4 m n k) [.sl (eTys l), .lit (fvW c3 c4)] [] fun r o h => r = .lit (.int .i64 (ixF f l)) ∧ o = 0 ∧ h = wiH b1 b2 c3 c4 m n k := by
  have hlen : (eTys l).length = l.length := by simp [eTys]
  refine callsG_of_wcx (first := []) (cap := []) ttok mixed Tryd.func107 rfl (by rfl) rfl (Nat.le_of_ble_eq_true rfl) (by kernel_rfl) ?_
  refine ⟨{k : Nat // k ≤ l.length ∧ ∀ j (hj : j < l.length), j < k → f l[j] = false}, fun i => { vs := [(0, .v (.sl (eTys l))), (1, .v (.lit (fvW c3 c4))), (7, sv (l.length : Nat)), (8, sv (i.1 : Nat))], hp := wiH b1 b2 c3 c4 m n k }, fun i => l.length - i.1, ⟨0, Nat.zero_le _, fun j _ h => by omega⟩, ⟨⟨rfl, rfl, svc (by rw [hlen]), rfl, trivial⟩, trivial, rfl⟩, ?_⟩
  rintro ⟨i, hi, hinv⟩
  refine ⟨fun h => ?_, fun h => ?_⟩
  · have h : i < l.length := by have h := of_decide_eq_true h; simp only at h; omega
    have hci := hc _ (List.getElem_mem h)
    refine ⟨_, by omega, getT h, rfl, ?_⟩
    refine .inr (.inr (.inl ⟨[0, 1, 2, 3], wiH b1 b2 c3 c4 m n k, _, rfl, by decide, hci, ?_⟩))
    refine ⟨fun h2 => ?_, fun h2 => ?_⟩
    · rw [ixF_at h h2 hinv]
      exact ⟨rfl, rfl, rfl⟩
    · refine ⟨⟨i + 1, h, fun j hj hji => ?_⟩, by simp; omega, ⟨rfl, rfl, rfl, svc (wrap_succ (k := i) (by omega)), trivial⟩, trivial, rfl⟩
      rcases Nat.lt_or_ge j i with hlt | hge
      · exact hinv j hj hlt
      · have : j = i := by omega
        subst this; exact h2
  · have h : i = l.length := by have h := of_decide_eq_false h; simp only at h; omega
    rw [ixF_no (fun j hj => hinv j hj (by omega))]
    exact ⟨rfl, rfl, rfl⟩
theorem containsW_ok {b1 b2 c3 c4 : Nat} {m n : Int} {k : Kn} (f : Tp → Bool) (l : List Tp) (hl : l.length < 1000) (hc : ∀ x ∈ l, CallsG Tryd.prog (fvW c3 c4) (wiH b1 b2 c3 c4 m n k) [eTy x] [] fun r o h => r = .sb (f x) ∧ o = 0 ∧ h = wiH b1 b2 c3 c4 m n k) :
    CallsG Tryd.prog (fnv n_slices_ContainsFunc_apiTypeapiType) (wiH b1 b2 c3 c4 m n k) [.sl (eTys l), .lit (fvW c3 c4)] [] fun r o h => r = .sb (l.any f) ∧ o = 0 ∧ h = wiH b1 b2 c3 c4 m n k := by
  have hI := indexW_ok f l hl hc
  rw [← ixF_any]
  refine callsG_of_wcx (first := []) (cap := []) ttok mixed Tryd.func90 rfl (by rfl) rfl (Nat.le_of_ble_eq_true rfl) (by kernel_rfl) ?_
  refine .inr (.inr (.inl ⟨[0, 1, 2, 3], wiH b1 b2 c3 c4 m n k, _, rfl, by decide, hI, ?_⟩))
  exact ⟨rfl, rfl, rfl⟩

def WithinOk (l : Kn) (n : Int) (t : Tp) : Prop := ∀ b1 b2 m, CallsG Tryd.prog (fnv n_unify_Subst_within) (stH b1 b2 m l) [sP b1, .lit (.int .i64 n), eTy t] [] fun r o h => r = .sb (decide (n ∈ mvs (fl l t))) ∧ o = 0 ∧ h = stH b1 b2 m l
theorem within_one {l : Kn} {n : Int} {a : Tp} (h : WithinOk l n a) (b1 b2 c3 c4 : Nat) (m : Int) : CallsG Tryd.prog (fvW c3 c4) (wiH b1 b2 c3 c4 m n l) [eTy a] [] fun r o h => r = .sb (decide (n ∈ mvs (fl l a))) ∧ o = 0 ∧ h = wiH b1 b2 c3 c4 m n l := by
  have hW := h b1 b2 m
  refine callsG_of_wcx (first := []) (cap := [cP c3, cP c4]) ttok mixed Tryd.func91 rfl (by rfl) rfl (Nat.le_of_ble_eq_true rfl) (by kernel_rfl) ?_
  refine ⟨2, _, _, rfl, rfl, ?_⟩
  refine ⟨3, _, _, rfl, rfl, ?_⟩
  refine .inr (.inr (.inl ⟨[0, 1], stH b1 b2 m l, _, rfl, by decide, hW, ?_⟩))
  exact ⟨rfl, rfl, rfl⟩
theorem within_step {l : Kn} (h : Ok l) (n : Int) (t : Tp) (hc : ∀ u, Lk l t u → ∀ x ∈ u.args, WithinOk l n x) : WithinOk l n t := by
  obtain ⟨u, hu, hL⟩ := look_ex h t
  intro b1 b2 m
  have hL := hL b1 b2 m
  have hE := fun c3 c4 => containsW_ok (b1 := b1) (b2 := b2) (c3 := c3) (c4 := c4) (m := m) (n := n) (k := l) (fun a => decide (n ∈ mvs (fl l a))) u.args (by have := args_le u; omega) (fun x hx => within_one (hc u hu x hx) b1 b2 c3 c4 m)
  simp only [← u.eArgs_eq] at hE
  refine CallsG.less (post := fun r o h => r = .sb (decide (n ∈ mvs (fl l t))) ∧ o = 0 ∧ (h = stH b1 b2 m l ∨ ∃ c3 c4, h = wiH b1 b2 c3 c4 m n l)) ?_ (fun r o hp hpo => ?_)
  rotate_left
  · obtain ⟨h1, h2, h3 | ⟨c3, c4, h3⟩⟩ := hpo
    · exact ⟨hp, [], by simp, h1, h2, h3⟩
    · exact ⟨stH b1 b2 m l, [(c3, HO.cells [sP b1]), (c4, HO.cells [.lit (.int .i64 n)])], h3, h1, h2, rfl⟩
  rw [← hu.same]
  refine callsG_of_wcx (first := []) (cap := []) ttok mixed Tryd.func79 rfl (by rfl) rfl (Nat.le_of_ble_eq_true rfl) (by kernel_rfl) ?_
  refine .inr (.inr (.inl ⟨[0, 1], stH b1 b2 m l, _, rfl, by decide, hL, ?_⟩))
  refine ⟨fun hf => ?_, fun hf => ?_⟩
  · have hf : u.form = 1 := of_decide_eq_true hf
    obtain ⟨q, rfl⟩ := Tp.is_mt hf
    have hm : mvs (fl l (.mt q)) = [q] := by rw [fl_mt, sg_unknown (hu.stop q rfl)]; rfl
    rw [hm]
    refine ⟨fun hn => ?_, fun hn => ?_⟩
    · have hn : q ≠ n := of_decide_eq_false hn
      refine .inr ⟨rfl, fun c3 => ⟨rfl, fun c4 => ?_⟩⟩
      have hE := hE c3 c4
      refine .inr (.inr (.inl ⟨[0, 1, 2, 3], wiH b1 b2 c3 c4 m n l, _, rfl, by decide, hE, ?_⟩))
      have e : decide (n ∈ [q]) = false := by simp [Ne.symm hn]
      rw [e]
      exact ⟨rfl, rfl, .inr ⟨c3, c4, rfl⟩⟩
    · have hn : q = n := of_decide_eq_true hn
      subst hn
      have e : decide (q ∈ [q]) = true := by simp
      rw [e]
      exact ⟨rfl, rfl, .inl rfl⟩
  · have hf : ¬ u.form = 1 := of_decide_eq_false hf
    refine .inr ⟨rfl, fun c3 => ⟨rfl, fun c4 => ?_⟩⟩
    have hE := hE c3 c4
    refine .inr (.inr (.inl ⟨[0, 1, 2, 3], wiH b1 b2 c3 c4 m n l, _, rfl, by decide, hE, ?_⟩))
    have e : decide (n ∈ mvs (fl l u)) = u.args.any fun a => decide (n ∈ mvs (fl l a)) := by
      cases u with
      | mt q => exact absurd rfl hf
      | app a b => rw [fl_app]; simp [Tp.args, mvs]
      | all s a => rw [fl_all]; simp [Tp.args, mvs]; exact decide_eq_decide.2 Iff.rfl
      | no => rw [fl_sbt]; simp [Tp.args, mvs, sbt]
      | var s => rw [fl_sbt]; simp [Tp.args, mvs, sbt]
      | con s => rw [fl_sbt]; simp [Tp.args, mvs, sbt]
    rw [e]
    exact ⟨rfl, rfl, .inr ⟨c3, c4, rfl⟩⟩
theorem within_ok {l : Kn} (h : Ok l) (n : Int) (t : Tp) : WithinOk l n t := by
  have go : ∀ (k : Nat) (t y : Tp), ap l k t = some y → WithinOk l n t := fun k => by
    induction k using Nat.strongRecOn with
    | _ k ih =>
      intro t y hk
      exact within_step h n t (fun u hu x hx => by
        obtain ⟨j, z, hj, hz⟩ := ap_args (hu.fuel k y hk) x hx
        exact ih j hj x z hz)
  obtain ⟨k, hk⟩ := ap_fl h t
  exact go k t _ hk
end Go.Proofs.YtigifkjcghkiiaaDoor
