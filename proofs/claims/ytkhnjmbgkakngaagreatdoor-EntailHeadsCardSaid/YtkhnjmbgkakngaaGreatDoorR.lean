/- The document's heads, Head, Same. -/
import Derived.Test.YtkhnjmbgkakngaaGreatDoorQ
set_option linter.unusedSimpArgs false
set_option linter.unusedVariables false
namespace Go.Proofs.YtkhnjmbgkakngaaGreatDoor
open Go Fp
set_option maxRecDepth 10000
set_option maxHeartbeats 8000000
set_option linter.unusedVariables false
set_option linter.unusedSimpArgs false

theorem rsameP_ok (p q : PR) : ACall Tryz.prog n_fugueref12_same [ePr p, ePr q] (.sb (onE p q)) := by
  unfold onE
  refine acall_of_wcx ttok mixed Tryz.func49 rfl (by rfl) (Nat.le_of_ble_eq_true rfl) (by kernel_rfl) ?_
  refine .inl ⟨_, equal_ok p.ty q.ty, ?_⟩
  by_cases h1 : p.cls = q.cls
  · refine ⟨fun hbs => ?_, fun hbs => ?_⟩ <;> first | (exfalso; revert hbs; (simp [h1]); done) | skip
    rw [decide_eq_true h1, Bool.true_and]
    exact rfl
  · refine ⟨fun hbs => ?_, fun hbs => ?_⟩ <;> first | (exfalso; revert hbs; (simp [h1]); done) | skip
    rw [decide_eq_false h1, Bool.false_and]
    exact rfl
theorem rSameP_ok (l : List PR) (hl : l.length < 1000000000) : ACall Tryz.prog n_fugueref12_Same [.sl (ePrs l), .sl (ePrs l)] (.sb true) := by
  refine acall_of_wcx ttok mixed Tryz.func18 rfl (by rfl) (Nat.le_of_ble_eq_true rfl) (by kernel_rfl) ?_
  refine ⟨fun hbs => ?_, fun hbs => ?_⟩ <;> first | (exfalso; revert hbs; (simp); done) | skip
  refine ⟨{k : Nat // k ≤ l.length}, fun k => { vs := [(0, .v (.sl (ePrs l))), (1, .v (.sl (ePrs l))), (5, sv (k.1 : Nat))] },
    fun k => l.length - k.1, ⟨0, Nat.zero_le _⟩, ⟨⟨rfl, rfl, rfl, trivial⟩, trivial, rfl⟩, ?_⟩
  rintro ⟨k, hk⟩
  refine ⟨fun h => ?_, fun h => ?_⟩
  · have h : k < l.length := by have h : (k : Int) < ((ePrs l).length : Nat) := of_decide_eq_true h; simp [ePrs] at h; omega
    refine ⟨_, by omega, getPr h, rfl, ?_⟩
    refine ⟨_, by omega, getPr h, rfl, ?_⟩
    have hs := rsameP_ok l[k] l[k]
    rw [onE_iff.2 rfl] at hs
    refine .inl ⟨_, hs, ?_⟩
    refine ⟨by kernel_rfl, ?_⟩
    refine ⟨fun hbs => ?_, fun hbs => ?_⟩ <;> first | (exfalso; revert hbs; (simp); done) | skip
    exact ⟨⟨k + 1, h⟩, (show l.length - (k + 1) < l.length - k by omega), ⟨rfl, rfl, svc (wrap_succ (k := k) (by omega)), trivial⟩, trivial, rfl⟩
  · exact rfl
theorem hasP_take {q : PR} {o : List PR} {j : Nat} (h : j < o.length) : hasP q (o.take (j + 1)) = (hasP q (o.take j) || onE o[j] q) := by
  unfold hasP
  rw [List.take_succ_eq_append_getElem h, List.any_append]
  simp
section
variable (cs : List Cl) (is : List In) (hi : is.length < 20000) (hy : ∀ y ∈ is, SmlI y)
include hi hy
theorem rheads_ok : ∀ (n : Nat) (x : PR), nA x.ty ∧ x.ty.sz ≤ 29 ∧ hgt x.ty ≤ 6 → x.ty.sz < n → ACall Tryz.prog n_fugueref12_heads [eProg cs is, ePr x] (hdR (hdP is n x)) := by
  intro n
  induction n with
  | zero => intro x _ h; omega
  | succ n ih =>
    intro x hx hn
    generalize hR : hdR (hdP is (n + 1) x) = R
    rw [hdP] at hR
    have hN := rneeds_ok cs is hi (fun y h => (hy y h).win.ok) x (by omega)
    have hip := fun (k : Nat) (l : List PR) => inst_plS hy (x := x) hx (k := k) (l := l)
    refine acall_of_wcx ttok mixed Tryz.func48 rfl (by rfl) (Nat.le_of_ble_eq_true rfl) (by kernel_rfl) ?_
    refine .inl ⟨_, rspine_ok x.ty (by omega), ?_⟩
    by_cases hf1 : (spHd x.ty).form = 1
    · rw [if_pos (.inl hf1)] at hR
      subst hR
      refine ⟨fun hbs => ?_, fun hbs => ?_⟩ <;> first | (exfalso; revert hbs; (simp [hf1]); done) | skip
      exact rfl
    · refine ⟨fun hbs => ?_, fun hbs => ?_⟩ <;> first | (exfalso; revert hbs; (simp [hf1]); done) | skip
      by_cases hf2 : (spHd x.ty).form = 2
      · rw [if_pos (.inr hf2)] at hR
        subst hR
        refine ⟨fun hbs => ?_, fun hbs => ?_⟩ <;> first | (exfalso; revert hbs; (simp [hf2]); done) | skip
        exact rfl
      · rw [if_neg (by omega)] at hR
        refine ⟨fun hbs => ?_, fun hbs => ?_⟩ <;> first | (exfalso; revert hbs; (simp [hf2]); done) | skip
        revert hR hN hip
        generalize instE is x = oi
        intro hR hN hip
        cases oi with
        | none =>
          subst hR
          refine .inl ⟨_, hN, ?_⟩
          refine ⟨fun hbs => ?_, fun hbs => ?_⟩ <;> first | (exfalso; revert hbs; (simp); done) | skip
          exact rfl
        | some kl =>
          obtain ⟨k0, l⟩ := kl
          obtain ⟨i1, i2, i3⟩ := hip k0 l rfl
          simp only at hR
          refine .inl ⟨_, hN, ?_⟩
          refine ⟨fun hbs => ?_, fun hbs => ?_⟩ <;> first | (exfalso; revert hbs; (simp); done) | skip
          refine ⟨{p : Nat × List PR // p.1 ≤ l.length ∧ p.2.length ≤ p.1 * 4096 ∧ R = hdR ((catO (hdP is n) (l.drop p.1)).map (p.2 ++ ·))}, fun p => { vs := [(2, .box 0 (eProg cs is)), (9, .v (.sl (ePrs l))), (11, .v (.sl (ePrs p.1.2))), (12, sv (p.1.1 : Nat))], ow := [(11, 0, 6)] },
            fun p => l.length - p.1.1, ⟨(0, []), Nat.zero_le _, Nat.zero_le _, by rw [← hR]; simp⟩, ⟨⟨rfl, rfl, rfl, rfl, trivial⟩, ⟨trivial, trivial⟩, rfl⟩, ?_⟩
          rintro ⟨⟨k, out⟩, hk, hlo, hinv⟩
          simp only at hk hlo hinv
          refine ⟨fun h => ?_, fun h => ?_⟩
          · have h : k < l.length := by have h : (k : Int) < ((ePrs l).length : Nat) := of_decide_eq_true h; simp [ePrs] at h; omega
            rw [List.drop_eq_getElem_cons h, catO] at hinv
            have hq := i3 _ (List.getElem_mem h)
            have hH := ih l[k] hq (by have := i2 _ (List.getElem_mem h); omega)
            have hml := fun m => hdP_len hy 6 n l[k] m hq.2.2
            rw [ps4] at hml
            refine ⟨_, by omega, getPr h, rfl, ?_⟩
            revert hinv hH hml
            generalize hdP is n l[k] = om
            intro hinv hH hml
            cases om with
            | none =>
              simp only [Option.map_none] at hinv
              subst hinv
              refine .inl ⟨_, hH, ?_⟩
              refine ⟨by kernel_rfl, ?_⟩
              refine ⟨fun hbs => ?_, fun hbs => ?_⟩ <;> first | (exfalso; revert hbs; (simp); done) | skip
              exact rfl
            | some m1 =>
              have hm1 := hml m1 rfl
              refine .inl ⟨_, hH, ?_⟩
              refine ⟨by kernel_rfl, ?_⟩
              refine ⟨fun hbs => ?_, fun hbs => ?_⟩ <;> first | (exfalso; revert hbs; (simp); done) | skip
              have e1 : (ePrs out).length = out.length := by simp [ePrs]
              have e2 : (ePrs m1).length = m1.length := by simp [ePrs]
              refine ⟨by show (ePrs out).length + (ePrs m1).length ≤ 4294967296; omega, uniPr _, uniPr _, ?_⟩
              refine ⟨⟨(k + 1, out ++ m1), h, by show (out ++ m1).length ≤ (k + 1) * 4096; rw [List.length_append]; omega, ?_⟩, (show l.length - (k + 1) < l.length - k by omega), ⟨rfl, rfl, ?_, svc (wrap_succ (k := k) (by omega)), trivial⟩, ⟨rfl, trivial⟩, rfl⟩
              · rw [hinv]
                simp only
                cases catO (hdP is n) (List.drop (k + 1) l) <;> simp
              · show SV.v (.sl (ePrs out ++ ePrs m1)) = SV.v (.sl (ePrs (out ++ m1)))
                simp [ePrs]
          · have h : k = l.length := by have h : ¬ (k : Int) < ((ePrs l).length : Nat) := of_decide_eq_false h; simp [ePrs] at h; omega
            subst h
            rw [List.drop_length, catO, Option.map_some, List.append_nil] at hinv
            subst hinv
            exact rfl
theorem rhead_ok (n : Nat) (l : List PR) (hl : PlS l) (hn : ∀ q ∈ l, q.ty.sz < n) (hl8 : l.length ≤ 8) : ACall Tryz.prog n_fugueref12_Head [eProg cs is, .sl (ePrs l)] (hdR ((catO (hdP is n) l).map (dd []))) := by
  generalize hR : hdR ((catO (hdP is n) l).map (dd [])) = R
  refine acall_of_wcx ttok mixed Tryz.func15 rfl (by rfl) (Nat.le_of_ble_eq_true rfl) (by kernel_rfl) ?_
  refine ⟨{p : Nat × List PR // p.1 ≤ l.length ∧ p.2.length ≤ p.1 * 4096 ∧ R = hdR (((catO (hdP is n) (l.drop p.1)).map (p.2 ++ ·)).map (dd []))}, fun p => { vs := [(1, .v (.sl (ePrs l))), (2, .box 0 (eProg cs is)), (6, .v (.sl (ePrs p.1.2))), (7, sv (p.1.1 : Nat))], ow := [(6, 0, 6)] },
    fun p => l.length - p.1.1, ⟨(0, []), Nat.zero_le _, Nat.zero_le _, by rw [← hR]; simp⟩, ⟨⟨rfl, rfl, rfl, rfl, trivial⟩, ⟨trivial, trivial⟩, rfl⟩, ?_⟩
  rintro ⟨⟨k, out⟩, hk, hlo, hinv⟩
  simp only at hk hlo hinv
  refine ⟨fun h => ?_, fun h => ?_⟩
  · have h : k < l.length := by have h : (k : Int) < ((ePrs l).length : Nat) := of_decide_eq_true h; simp [ePrs] at h; omega
    rw [List.drop_eq_getElem_cons h, catO] at hinv
    have hq := hl _ (List.getElem_mem h)
    have hH := rheads_ok cs is hi hy n l[k] hq (hn _ (List.getElem_mem h))
    have hml := fun m => hdP_len hy 6 n l[k] m hq.2.2
    rw [ps4] at hml
    refine ⟨_, by omega, getPr h, rfl, ?_⟩
    revert hinv hH hml
    generalize hdP is n l[k] = om
    intro hinv hH hml
    cases om with
    | none =>
      simp only [Option.map_none] at hinv
      subst hinv
      refine .inl ⟨_, hH, ?_⟩
      refine ⟨by kernel_rfl, ?_⟩
      refine ⟨fun hbs => ?_, fun hbs => ?_⟩ <;> first | (exfalso; revert hbs; (simp); done) | skip
      exact rfl
    | some m1 =>
      have hm1 := hml m1 rfl
      refine .inl ⟨_, hH, ?_⟩
      refine ⟨by kernel_rfl, ?_⟩
      refine ⟨fun hbs => ?_, fun hbs => ?_⟩ <;> first | (exfalso; revert hbs; (simp); done) | skip
      have e1 : (ePrs out).length = out.length := by simp [ePrs]
      have e2 : (ePrs m1).length = m1.length := by simp [ePrs]
      refine ⟨by show (ePrs out).length + (ePrs m1).length ≤ 4294967296; omega, uniPr _, uniPr _, ?_⟩
      refine ⟨⟨(k + 1, out ++ m1), h, by show (out ++ m1).length ≤ (k + 1) * 4096; rw [List.length_append]; omega, ?_⟩, (show l.length - (k + 1) < l.length - k by omega), ⟨rfl, rfl, ?_, svc (wrap_succ (k := k) (by omega)), trivial⟩, ⟨rfl, trivial⟩, rfl⟩
      · rw [hinv]
        simp only
        cases catO (hdP is n) (List.drop (k + 1) l) <;> simp
      · show SV.v (.sl (ePrs out ++ ePrs m1)) = SV.v (.sl (ePrs (out ++ m1)))
        simp [ePrs]
  · have h : k = l.length := by have h : ¬ (k : Int) < ((ePrs l).length : Nat) := of_decide_eq_false h; simp [ePrs] at h; omega
    subst h
    rw [List.drop_length, catO, Option.map_some, Option.map_some, List.append_nil] at hinv
    refine ⟨{p : Nat × List PR // p.1 ≤ out.length ∧ p.2.length ≤ p.1 ∧ R = hdR (some (dd p.2 (out.drop p.1)))}, fun p => { vs := [(6, .v (.sl (ePrs out))), (10, .v (.sl (ePrs p.1.2))), (11, sv (p.1.1 : Nat))], ow := [(10, 0, 6)] },
      fun p => out.length - p.1.1, ⟨(0, []), Nat.zero_le _, Nat.zero_le _, hinv⟩, ⟨⟨rfl, rfl, rfl, trivial⟩, ⟨trivial, trivial⟩, rfl⟩, ?_⟩
    rintro ⟨⟨i, o⟩, hio, hoo, hinv2⟩
    simp only at hio hoo hinv2
    refine ⟨fun h => ?_, fun h => ?_⟩
    · have h : i < out.length := by have h : (i : Int) < ((ePrs out).length : Nat) := of_decide_eq_true h; simp [ePrs] at h; omega
      rw [dropDd h] at hinv2
      have hgq := getPr h
      have hn2 : out.length - (i + 1) < out.length - i := by omega
      generalize out[i] = q at *
      refine ⟨{j : Nat // j ≤ o.length}, fun j => { vs := [(6, .v (.sl (ePrs out))), (10, .v (.sl (ePrs o))), (11, sv (i : Nat)), (12, .v (.sb (hasP q (o.take j.1)))), (13, sv (j.1 : Nat))], ow := [(10, 0, 6)] },
        fun j => o.length - j.1, ⟨0, Nat.zero_le _⟩, ⟨⟨rfl, rfl, rfl, rfl, rfl, trivial⟩, ⟨rfl, trivial⟩, rfl⟩, ?_⟩
      rintro ⟨j, hj⟩
      refine ⟨fun h3 => ?_, fun h3 => ?_⟩
      · have h3 : j < o.length := by have h : (j : Int) < ((ePrs o).length : Nat) := of_decide_eq_true h3; simp [ePrs] at h; omega
        refine ⟨_, by omega, getPr h3, rfl, ?_⟩
        refine ⟨_, by omega, hgq, rfl, ?_⟩
        refine .inl ⟨_, rsameP_ok o[j] q, ?_⟩
        refine ⟨by kernel_rfl, ?_⟩
        have e := hasP_take (q := q) h3
        cases hb : hasP q (o.take j) with
        | true =>
          rw [hb, Bool.true_or] at e
          refine ⟨fun hbs => ?_, fun hbs => ?_⟩ <;> first | (exfalso; revert hbs; (simp); done) | skip
          exact ⟨⟨j + 1, h3⟩, (show o.length - (j + 1) < o.length - j by omega), ⟨rfl, rfl, rfl, by show SV.v (.sb true) = SV.v (.sb (hasP q (o.take (j + 1)))); rw [e], svc (wrap_succ (k := j) (by omega)), trivial⟩, ⟨rfl, trivial⟩, rfl⟩
        | false =>
          rw [hb, Bool.false_or] at e
          refine ⟨fun hbs => ?_, fun hbs => ?_⟩ <;> first | (exfalso; revert hbs; (simp); done) | skip
          exact ⟨⟨j + 1, h3⟩, (show o.length - (j + 1) < o.length - j by omega), ⟨rfl, rfl, rfl, by show SV.v (.sb (onE o[j] q)) = SV.v (.sb (hasP q (o.take (j + 1)))); rw [e], svc (wrap_succ (k := j) (by omega)), trivial⟩, ⟨rfl, trivial⟩, rfl⟩
      · have h3 : j = o.length := by have h : ¬ (j : Int) < ((ePrs o).length : Nat) := of_decide_eq_false h3; simp [ePrs] at h; omega
        subst h3
        rw [List.take_length]
        unfold insP at hinv2
        cases hb : hasP q o with
        | true =>
          rw [if_pos hb] at hinv2
          refine ⟨fun hbs => ?_, fun hbs => ?_⟩ <;> first | (exfalso; revert hbs; (simp); done) | skip
          exact ⟨⟨(i + 1, o), h, by show o.length ≤ i + 1; omega, hinv2⟩, hn2, ⟨rfl, rfl, svc (wrap_succ (k := i) (by omega)), trivial⟩, ⟨rfl, trivial⟩, rfl⟩
        | false =>
          rw [if_neg (by simp [hb])] at hinv2
          refine ⟨fun hbs => ?_, fun hbs => ?_⟩ <;> first | (exfalso; revert hbs; (simp); done) | skip
          refine ⟨_, by omega, hgq, rfl, ?_⟩
          refine ⟨by show (ePrs o).length + 1 ≤ 4294967296; simp [ePrs]; omega, uniPr _, uni1 rfl, ?_⟩
          refine ⟨⟨(i + 1, o ++ [q]), h, by show (o ++ [q]).length ≤ i + 1; simp; omega, hinv2⟩, hn2, ⟨rfl, ?_, svc (wrap_succ (k := i) (by omega)), trivial⟩, ⟨rfl, trivial⟩, rfl⟩
          show SV.v (.sl (ePrs o ++ [ePr q])) = _
          rw [ePrs_snoc]
    · have h : i = out.length := by have h : ¬ (i : Int) < ((ePrs out).length : Nat) := of_decide_eq_false h; simp [ePrs] at h; omega
      subst h
      rw [List.drop_length] at hinv2
      have hinv2 : R = hdR (some o) := hinv2
      subst hinv2
      exact rfl
end
end Go.Proofs.YtkhnjmbgkakngaaGreatDoor

namespace Go.Proofs.YtkhnjmbgkakngaaGreatDoor
open Go Fp
set_option maxRecDepth 10000
set_option maxHeartbeats 8000000
set_option linter.unusedVariables false
set_option linter.unusedSimpArgs false

noncomputable def smpE (m : List Cl) (is : List In) : Nat → List PR → Nat → List PR
  | 0, l, _ => l
  | k + 1, l, a => match l[a]? with
    | some x => if (byE m is (l.eraseIdx a) (x.ty.sz + 1) x).isSome = true then smpE m is k (l.eraseIdx a) a else smpE m is k l (a + 1)
    | none => l
theorem smpE_at {m : List Cl} {is : List In} {l : List PR} {a : Nat} (h : a < l.length) : smpE m is (l.length - a) l a = if (byE m is (l.eraseIdx a) (l[a].ty.sz + 1) l[a]).isSome = true then smpE m is ((l.eraseIdx a).length - a) (l.eraseIdx a) a else smpE m is (l.length - (a + 1)) l (a + 1) := by
  have e : (l.eraseIdx a).length - a = l.length - (a + 1) := by rw [List.length_eraseIdx, if_pos h]; omega
  rw [e, show l.length - a = (l.length - (a + 1)) + 1 by omega, smpE, List.getElem?_eq_getElem h]
theorem erase_plS {l : List PR} (h : PlS l) (a : Nat) : PlS (l.eraseIdx a) := fun q hq => h q (List.mem_of_mem_eraseIdx hq)
theorem PlS.pl {l : List PR} (h : PlS l) : ∀ q ∈ l, nA q.ty ∧ q.ty.sz < 1000000 := fun q hq => ⟨(h q hq).1, by have := (h q hq).2.1; omega⟩
theorem eraseTake {l : List PR} {a i : Nat} (h : i < l.length) : (l.take (i + 1)).eraseIdx a = if i = a then (l.take i).eraseIdx a else (l.take i).eraseIdx a ++ [l[i]] := by
  rw [List.take_succ_eq_append_getElem h]
  have hl : (l.take i).length = i := by rw [List.length_take]; omega
  by_cases h1 : a < i
  · rw [if_neg (by omega), List.eraseIdx_append_of_lt_length (by omega)]
  · rw [List.eraseIdx_append_of_length_le (by omega), hl]
    by_cases h2 : i = a
    · subst h2
      have e2 : (l.take i).eraseIdx i = l.take i := List.eraseIdx_of_length_le (by omega)
      rw [if_pos rfl, Nat.sub_self, e2]
      show l.take i ++ [] = _
      rw [List.append_nil]
    · have e2 : (l.take i).eraseIdx a = l.take i := List.eraseIdx_of_length_le (by omega)
      have e3 : [l[i]].eraseIdx (a - i) = [l[i]] := List.eraseIdx_of_length_le (by simp only [List.length_singleton]; omega)
      rw [if_neg h2, e2, e3]
theorem errR (o : Option Ev) : ∃ e : Int, (o.isSome = true → e = 0) ∧ (o.isSome = false → e = 33) ∧ evR o = .tup [eV (o.getD zEv), .lit (.int .i64 e)] := by
  cases o with
  | none => exact ⟨33, fun h => absurd h (by simp), fun _ => rfl, rfl⟩
  | some v => exact ⟨0, fun _ => rfl, fun h => absurd h (by simp), rfl⟩
noncomputable def simE (m : List Cl) (is : List In) (n : Nat) (l : List PR) : Option (List PR) := ((catO (hdP is n) l).map (dd [])).map fun l => smpE m is l.length l 0
section
variable (cs : List Cl) (mm : List (AV × AV)) (is : List In) (hnd : (cs.map Cl.nm).Nodup) (hm : cs.length < 1000) (hsup : ∀ c ∈ cs, c.sup.length < 1000) (hi : is.length < 20000) (hy : ∀ y ∈ is, SmlI y)
include hnd hm hsup hi hy
theorem rsimple_ok (n : Nat) (l : List PR) (hl : PlS l) (hn : ∀ q ∈ l, q.ty.sz < n) (hl8 : l.length ≤ 8) : ACall Tryz.prog n_fugueref12_Simple [eProg cs is, .sl (ePrs l)] (hdR (simE cs.reverse is n l)) := by
  have hH := rhead_ok cs is hi hy n l hl hn hl8
  unfold simE
  have hlp : ∀ o, (catO (hdP is n) l).map (dd []) = some o → PlS o ∧ o.length ≤ 40000 := fun o ho => by
    obtain ⟨m1, h1, h2⟩ := Option.map_eq_some_iff.1 ho
    subst h2
    refine ⟨dd_plS (fun q hq => by simp at hq) (catO_all (fun q hq m hm => hdP_plS hy n q m (hl q hq) hm) h1), ?_⟩
    have := catO_len (B := 4096) (fun q hq m hm => by have := hdP_len hy 6 n q m (hl q hq).2.2 hm; rwa [ps4] at this) h1
    have h3 := dd_len m1 []
    simp at h3; omega
  revert hH hlp
  generalize (catO (hdP is n) l).map (dd []) = oc
  intro hH hlp
  refine acall_of_wcx ttok mixed Tryz.func17 rfl (by rfl) (Nat.le_of_ble_eq_true rfl) (by kernel_rfl) ?_
  refine .inl ⟨_, hH, ?_⟩
  cases oc with
  | none =>
    refine ⟨fun hbs => ?_, fun hbs => ?_⟩ <;> first | (exfalso; revert hbs; (simp); done) | skip
    exact rfl
  | some l0 =>
    obtain ⟨hp0, hl0⟩ := hlp l0 rfl
    refine ⟨fun hbs => ?_, fun hbs => ?_⟩ <;> first | (exfalso; revert hbs; (simp); done) | skip
    generalize hR : hdR (Option.map (fun l => smpE cs.reverse is l.length l 0) (some l0)) = R
    rw [Option.map_some] at hR
    refine ⟨{p : Nat × List PR // p.1 ≤ p.2.length ∧ PlS p.2 ∧ p.2.length ≤ 40000 ∧ R = hdR (some (smpE cs.reverse is (p.2.length - p.1) p.2 p.1))}, fun p => { vs := [(2, .box 0 (eProg cs is)), (6, .v (.sl (ePrs p.1.2))), (8, sv (p.1.1 : Nat))] },
      fun p => p.1.2.length - p.1.1, ⟨(0, l0), Nat.zero_le _, hp0, hl0, hR.symm⟩, ⟨⟨rfl, rfl, rfl, trivial⟩, trivial, rfl⟩, ?_⟩
    rintro ⟨⟨a, L⟩, ha, hpL, hlL, hinv⟩
    simp only at ha hpL hlL hinv
    refine ⟨fun h => ?_, fun h => ?_⟩
    · have h : a < L.length := by have h : (a : Int) < ((ePrs L).length : Nat) := of_decide_eq_true h; simp [ePrs] at h; omega
      refine ⟨{i : Nat // i ≤ L.length}, fun i => { vs := [(2, .box 0 (eProg cs is)), (6, .v (.sl (ePrs L))), (8, sv (a : Nat)), (9, .v (.sl (ePrs ((L.take i.1).eraseIdx a)))), (10, sv (i.1 : Nat))], ow := [(9, 0, 6)] },
        fun i => L.length - i.1, ⟨0, Nat.zero_le _⟩, ⟨⟨rfl, rfl, rfl, rfl, rfl, trivial⟩, ⟨trivial, trivial⟩, rfl⟩, ?_⟩
      rintro ⟨i, hiL⟩
      refine ⟨fun h2 => ?_, fun h2 => ?_⟩
      · have h2 : i < L.length := by have h : (i : Int) < ((ePrs L).length : Nat) := of_decide_eq_true h2; simp [ePrs] at h; omega
        have e := eraseTake (a := a) h2
        have hn2 : L.length - (i + 1) < L.length - i := by omega
        by_cases hia : i = a
        · rw [if_pos hia] at e
          refine ⟨fun hbs => ?_, fun hbs => ?_⟩ <;> first | (exfalso; revert hbs; (simp [hia]); done) | skip
          exact ⟨⟨i + 1, h2⟩, hn2, ⟨rfl, rfl, rfl, by show SV.v (.sl (ePrs ((L.take i).eraseIdx a))) = SV.v (.sl (ePrs ((L.take (i + 1)).eraseIdx a))); rw [e], svc (wrap_succ (k := i) (by omega)), trivial⟩, ⟨rfl, trivial⟩, rfl⟩
        · rw [if_neg hia] at e
          refine ⟨fun hbs => ?_, fun hbs => ?_⟩ <;> first | (exfalso; revert hbs; (simp; omega); done) | skip
          refine ⟨_, by omega, getPr h2, rfl, ?_⟩
          have hle : ((L.take i).eraseIdx a).length ≤ i := by rw [List.length_eraseIdx]; split <;> (rw [List.length_take]; omega)
          refine ⟨by show (ePrs ((L.take i).eraseIdx a)).length + 1 ≤ 4294967296; have : (ePrs ((L.take i).eraseIdx a)).length = ((L.take i).eraseIdx a).length := by simp [ePrs]
                     omega, uniPr _, uni1 rfl, ?_⟩
          refine ⟨⟨i + 1, h2⟩, hn2, ⟨rfl, rfl, rfl, ?_, svc (wrap_succ (k := i) (by omega)), trivial⟩, ⟨rfl, trivial⟩, rfl⟩
          show SV.v (.sl (ePrs ((L.take i).eraseIdx a) ++ [ePr L[i]])) = SV.v (.sl (ePrs ((L.take (i + 1)).eraseIdx a)))
          rw [e, ePrs_snoc]
      · have h2 : i = L.length := by have h : ¬ (i : Int) < ((ePrs L).length : Nat) := of_decide_eq_false h2; simp [ePrs] at h; omega
        subst h2
        rw [List.take_length]
        rw [smpE_at h] at hinv
        have hx := hpL _ (List.getElem_mem h)
        have hB := rby_ok cs is (L.eraseIdx a) hnd hm hsup hi (fun y hm => (hy y hm).win) (by rw [List.length_eraseIdx]; split <;> omega) (erase_plS hpL a).pl (L[a].ty.sz + 1) L[a] hx.1 (by omega) (by omega)
        have hn3 : (L.eraseIdx a).length - a < L.length - a := by rw [List.length_eraseIdx, if_pos h]; omega
        have hn4 : L.length - (a + 1) < L.length - a := by omega
        have hle : (L.eraseIdx a).length = L.length - 1 := by rw [List.length_eraseIdx, if_pos h]
        obtain ⟨ee, he1, he2, he3⟩ := errR (byE cs.reverse is (L.eraseIdx a) (L[a].ty.sz + 1) L[a])
        rw [he3] at hB
        refine ⟨_, by omega, getPr h, rfl, ?_⟩
        refine .inl ⟨_, hB, ?_⟩
        refine ⟨by kernel_rfl, ?_⟩
        cases hb : (byE cs.reverse is (L.eraseIdx a) (L[a].ty.sz + 1) L[a]).isSome with
        | true =>
          rw [if_pos hb] at hinv
          have he := he1 hb
          refine ⟨fun hbs => ?_, fun hbs => ?_⟩ <;> first | (exfalso; revert hbs; (simp [he]); done) | skip
          exact ⟨⟨(a, L.eraseIdx a), by show a ≤ (L.eraseIdx a).length; omega, erase_plS hpL a, by show (L.eraseIdx a).length ≤ _; omega, hinv⟩, hn3, ⟨rfl, rfl, rfl, trivial⟩, trivial, rfl⟩
        | false =>
          rw [if_neg (by simp [hb])] at hinv
          have he := he2 hb
          refine ⟨fun hbs => ?_, fun hbs => ?_⟩ <;> first | (exfalso; revert hbs; (simp [he]); done) | skip
          exact ⟨⟨(a + 1, L), h, hpL, hlL, hinv⟩, hn4, ⟨rfl, rfl, svc (wrap_succ (k := a) (by omega)), trivial⟩, trivial, rfl⟩
    · have h : a = L.length := by have h : ¬ (a : Int) < ((ePrs L).length : Nat) := of_decide_eq_false h; simp [ePrs] at h; omega
      subst h
      rw [Nat.sub_self, smpE] at hinv
      subst hinv
      exact rfl
end
end Go.Proofs.YtkhnjmbgkakngaaGreatDoor
