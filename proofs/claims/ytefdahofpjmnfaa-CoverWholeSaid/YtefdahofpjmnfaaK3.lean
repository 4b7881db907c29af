/- If nothing is missing of patterns, nothing is with one more behind them, and that one is useless: the statement's function is true. No condition but that numbers are integers of 64 bits. -/
import Derived.Test.YtefdahofpjmnfaaK2
set_option linter.unusedSimpArgs false
set_option linter.unusedVariables false
namespace Go.Proofs.Ytefdahofpjmnfaa
open Go Fp
set_option maxRecDepth 10000
set_option maxHeartbeats 16000000

theorem tk_app (l m : List Rw) (vs : List Vl) : tk (l ++ m) vs = (tk l vs || tk m vs) := by unfold tk; rw [List.any_append]
theorem tk_sub {l m : List Rw} {vs : List Vl} (h : ∀ r ∈ l, r ∈ m) (ht : tk l vs = true) : tk m vs = true := by
  unfold tk at *
  rw [List.any_eq_true] at *
  obtain ⟨r, hr, h2⟩ := ht
  exact ⟨r, h r hr, h2⟩

theorem whole_of {t : Nat} {ps : List Pt} (h : PatsOk t ps) (hm : missOf ps = none) {vs : List Vl} (hv : TyVs [t] vs) : tk (rowsFrom 0 ps) vs = true :=
  miss_whole 300 (rowsFrom 0 ps) [t] h.all hm vs hv

theorem full_miss {t : Nat} {ps : List Pt} {x : Pt} (h : PatsOk t ps) (hx : PatsOk t (ps ++ [x])) (hm : missOf ps = none) : missOf (ps ++ [x]) = none := by
  cases hq : missOf (ps ++ [x]) with
  | none => rfl
  | some m =>
    exfalso
    obtain ⟨vs, h1, h2⟩ := miss_val 300 _ [t] m hx.all hq
    have h3 := miss_sound 300 _ [t] m hx.all hq vs h2
    have h4 := whole_of h hm h1
    rw [rowsFrom_app] at h3
    rw [tk_app, h4] at h3
    cases h3

theorem full_last {t : Nat} {ps : List Pt} {x : Pt} (h : PatsOk t ps) (hx : PatsOk t (ps ++ [x])) (hm : missOf ps = none) : ∃ u, uslOf (ps ++ [x]) = u ++ [((ps.length : Nat) : Int)] ∧ u.length ≤ ps.length := by
  have hlen : (rowsFrom 0 (ps ++ [x])).length = ps.length + 1 := by rw [rowsFrom_len]; simp
  have hk : ps.length < (rowsFrom 0 (ps ++ [x])).length := by omega
  have htk : (rowsFrom 0 (ps ++ [x])).take ps.length = rowsFrom 0 ps := by rw [rowsFrom_take, List.take_left]
  have hat := hx.at hk
  have hf : fresh 300 ((rowsFrom 0 (ps ++ [x])).take ps.length) (rowsFrom 0 (ps ++ [x]))[ps.length] = false := by
    cases hq : fresh 300 ((rowsFrom 0 (ps ++ [x])).take ps.length) (rowsFrom 0 (ps ++ [x]))[ps.length] with
    | false => rfl
    | true =>
      exfalso
      obtain ⟨vs, h1, _, h3⟩ := fresh_yes 300 _ _ [t] hat hq
      rw [htk, whole_of h hm h1] at h3
      cases h3
  refine ⟨usl (rowsFrom 0 (ps ++ [x])) ps.length, ?_, usl_le _ _⟩
  unfold uslOf
  rw [List.length_append, List.length_singleton, usl, List.getElem?_eq_getElem hk]
  simp only [hf]
  rfl

theorem takeLast {u : List Int} {k : Int} : (eIs (u ++ [k]))[u.length]? = some (.lit (.int .i64 k)) := by simp [eIs]

theorem coverFull_ok {l k : List Int} (hl : l.length < 9223372036854775808) (hr : ∀ x ∈ l, InR x) (_ : k.length < 9223372036854775808) (hk : ∀ x ∈ k, InR x) : ACall Try.prog n_fuguelaw20_CoverFull [.sl (eIs l), .sl (eIs k)] (.sb true) := by
  obtain ⟨ps, t, hP, ht, hlen, hps⟩ := pats_ok hr hl
  obtain ⟨x, nx, hX, hty, hnx, hsz⟩ := pattern_ok hk 3 (by decide) 0 t (by decide) ht
  have hok : PatsOk t ps := ⟨ht, by omega, hps⟩
  have hokx : PatsOk t (ps ++ [x]) := ⟨ht, by simp; omega, fun p hp => by
    rcases List.mem_append.1 hp with hp | hp
    · exact hps p hp
    · simp at hp; subst hp; exact ⟨hty, hsz⟩⟩
  have e1 : ePts (ps ++ [x]) = [] ++ ePts ps ++ [ePt x] := by simp [ePts]
  have h1 := Missing_ok hok
  have h2 := Missing_ok hokx
  have h3 := Useless_ok hokx
  obtain ⟨p1, b1, he1, _, hb1⟩ := misOr_cases (missOf ps) (missOf_facts ps)
  obtain ⟨p2, b2, he2, _, hb2⟩ := misOr_cases (missOf (ps ++ [x])) (missOf_facts (ps ++ [x]))
  rw [he1] at h1
  rw [he2, e1] at h2
  have hb : b1 = false → b2 = false ∧ ∃ u, uslOf (ps ++ [x]) = u ++ [((ps.length : Nat) : Int)] ∧ u.length ≤ ps.length := fun h => by
    rcases hb1 with ⟨hm, _⟩ | ⟨_, hm⟩
    · have := full_miss hok hokx hm
      refine ⟨?_, full_last hok hokx hm⟩
      rcases hb2 with ⟨_, h⟩ | ⟨h, _⟩
      · exact h
      · rw [this] at h; cases h
    · rw [h] at hm; cases hm
  have hlu := uslOf_le (ps ++ [x])
  simp only [List.length_append, List.length_singleton] at hlu
  generalize uslOf (ps ++ [x]) = us at h3 hb hlu
  rw [e1] at h3
  have hx10 : (ePt x).cells.length = 10 := rfl
  refine acall_of_wcx ttok mixed Try.func5 rfl (by rfl) (Nat.le_of_ble_eq_true rfl) (by kernel_rfl) ?_
  refine .inl ⟨_, hP, ?_⟩
  refine .inl ⟨_, program_ok, .inl ⟨_, new_ok, ?_⟩⟩
  refine .inl ⟨_, hX, ?_⟩
  refine ⟨by rw [lenP]; simp; omega, uni0 _, uniP _, ?_⟩
  refine ⟨by simp [ePts]; omega, uniApp (uni0 _) (uniP _), uni1 hx10, ?_⟩
  refine ⟨by kernel_rfl, ?_⟩
  refine .inl ⟨_, h1, ?_⟩
  refine .inl ⟨_, h2, ?_⟩
  refine .inl ⟨_, h3, ?_⟩
  cases b1 with
  | false =>
    obtain ⟨hb2', u, hu, hul⟩ := hb rfl
    subst hb2'
    subst hu
    have hlu2 : (eIs (u ++ [((ps.length : Nat) : Int)])).length = u.length + 1 := by simp [eIs]
    have wl : IntKind.i64.wrap (((eIs (u ++ [((ps.length : Nat) : Int)])).length : Nat) - 1) = (u.length : Int) := by rw [hlu2]; exact wrap_pred (by omega)
    refine ⟨fun _ => ?_, fun h => ?_⟩
    · refine ⟨.lit (.int .i64 (ps.length : Nat)), by rw [wl]; omega, by rw [wl]; exact takeLast, rfl, ?_⟩
      refine ⟨fun hbs => ?_, fun hbs => ?_⟩ <;> first | (exfalso; revert hbs; decide) | skip
      refine ⟨fun hbs => ?_, fun hbs => ?_⟩ <;> first | (exfalso; revert hbs; decide) | skip
      refine ⟨fun _ => ?_, fun h => ?_⟩
      · refine .inl ⟨_, lives_ok, ?_⟩
        exact rfl
      · have h := of_decide_eq_false h
        rw [lenP] at h; exact absurd rfl h
    · have h := of_decide_eq_false h
      rw [hlu2] at h; omega
  | true =>
    refine ⟨fun hpos => ?_, fun h => ?_⟩
    · have hpos := of_decide_eq_true hpos
      rw [lenI] at hpos
      have h0 : us.length - 1 < us.length := by omega
      have wl : IntKind.i64.wrap (((eIs us).length : Nat) - 1) = ((us.length - 1 : Nat) : Int) := by
        rw [lenI, show ((us.length : Nat) : Int) - 1 = ((us.length - 1 : Nat) : Int) by omega]; exact wrap_nat (by omega)
      refine ⟨_, by rw [wl]; omega, by rw [wl]; exact getI h0, rfl, ?_⟩
      refine ⟨fun hbs => ?_, fun hbs => ?_⟩ <;> first | (exfalso; revert hbs; decide) | skip
      refine .inl ⟨_, lives_ok, ?_⟩
      exact rfl
    · refine ⟨fun hbs => ?_, fun hbs => ?_⟩ <;> first | (exfalso; revert hbs; decide) | skip
      refine .inl ⟨_, lives_ok, ?_⟩
      exact rfl
end Go.Proofs.Ytefdahofpjmnfaa
