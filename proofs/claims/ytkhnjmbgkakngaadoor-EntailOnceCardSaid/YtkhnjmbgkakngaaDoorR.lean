/- The law EntailOnce. -/
import Derived.Test.YtkhnjmbgkakngaaDoorQ
set_option linter.unusedSimpArgs false
set_option linter.unusedVariables false
namespace Go.Proofs.YtkhnjmbgkakngaaDoor
open Go Fp
set_option maxRecDepth 10000
set_option maxHeartbeats 8000000
set_option linter.unusedVariables false
set_option linter.unusedSimpArgs false

theorem entailOnce_ok {l0 l1 l2 : List Int} (hl0 : l0.length < 9223372036854775808) (hr0 : ∀ x ∈ l0, InR x) (hl1 : l1.length < 9223372036854775808) (hr1 : ∀ x ∈ l1, InR x) (hl2 : l2.length < 9223372036854775808) (hr2 : ∀ x ∈ l2, InR x) :
    ACall Tryd.prog n_fuguelaw12_EntailOnce [.sl (eIs l0), .sl (eIs l1), .sl (eIs l2)] (.sb true) := by
  obtain ⟨cs, is, W, hU, hW⟩ := world_uni hl0 hr0
  obtain ⟨b, e, q, hN, he⟩ := newW_ok W
  have hP1 := preds_ok hl1 hr1 4 (by decide)
  have hg1 := prd_len 4 (l1.take 30)
  have hs1 := prd_plS hr1 4
  revert hP1 hg1 hs1
  generalize prd 4 (l1.take 30) = xs
  intro hP1 hg1 hs1
  have hI := ints_ok (l := l2) (n := 20) hl2 (by decide)
  obtain ⟨⟨w, rest⟩, hMw⟩ := made_ok' 4 0 rfl (l2.take 20) ⟨by rw [List.length_take]; omega, fun x hx => hr2 x (List.mem_of_mem_take hx)⟩
  obtain ⟨hwf, hw2, hM⟩ := hMw
  simp only at hwf hw2 hM
  refine acall_of_wsem ttok mixed Tryd.func5 rfl (by rfl) (Nat.le_of_ble_eq_true rfl) (by kernel_rfl) ?_
  refine Wsem.seq ttok mixed ?_
  refine Wsem.seq ttok mixed ?_
  refine .inl ⟨_, hW, ?_⟩
  refine .inr (.inr (.inr (.inr (.inr (.inl ⟨[], [], [], _, rfl, by decide, rfl, hN, ?_⟩)))))
  rintro r o h ⟨rfl, rfl, rfl⟩
  cases b with
  | false =>
    simp only [Bool.false_eq_true, if_false] at he
    subst he
    refine Wsem.cut { vs := [(7, .v (.lit (.pointer none)))] } ⟨⟨rfl, trivial⟩, trivial, rfl⟩ ?_
    refine Wsem.of ttok mixed ?_
    refine .inl ⟨_, lives_ok, ?_⟩
    exact rfl
  | true =>
    simp only [if_true] at he
    subst he
    have hfew := W.few
    have hins := W.ins
    have hrl : cs.reverse.length ≤ 5 := by rw [List.length_reverse]; omega
    have hrs : ∀ c ∈ cs.reverse, c.sup.length ≤ 2 := fun c hc => W.sup c (List.mem_reverse.1 hc)
    have hrm : ∀ c ∈ cs.reverse, c.mth.length < 1000 := fun c hc => by have := W.mth c (List.mem_reverse.1 hc); omega
    have hy : ∀ y ∈ is, WIn y := fun y hy => (W.sml y hy).win
    generalize eM (mthAll cs cs.length) = mm
    generalize cs.reverse = m at *
    have hrs' : ∀ c ∈ m, c.sup.length < 1000 := fun c hc => by have := hrs c hc; omega
    have hBy := fun (z : PR) (hz : nA z.ty ∧ z.ty.sz < 1000000) => by_ok m mm is [] (by omega) hrs' (by omega) hy (by simp) (fun q hq => by simp at hq) (z.ty.sz + 1) z hz.1 hz.2 (by omega)
    have hCk := fun (N : Nat) (z : PR) (hz : nA z.ty ∧ z.ty.sz < 1000000) (v : Ev) (hv : Dp N v) => check_ok m mm is hrs' hrm (by omega) hy [] (fun q hq => by simp at hq) N z v hv hz.1 hz.2
    refine Wsem.cut { vs := [(1, .v (.sl (eIs l1))), (2, .v (.sl (eIs l2))), (7, .v (eEnv m mm is))] } ⟨⟨rfl, rfl, rfl, trivial⟩, trivial, rfl⟩ ?_
    refine Wsem.of ttok mixed ?_
    refine .inl ⟨_, hP1, ?_⟩
    refine .inl ⟨_, hI, ?_⟩
    refine .inl ⟨_, hM, ?_⟩
    refine ⟨{i : Nat // i ≤ xs.length}, fun i => { vs := [(7, .v (eEnv m mm is)), (9, .v (.sl (ePrs xs))), (10, .box 0 (eV w)), (12, sv (i.1 : Nat))] },
      fun i => xs.length - i.1, ⟨0, Nat.zero_le _⟩, ⟨⟨rfl, rfl, rfl, rfl, trivial⟩, trivial, rfl⟩, ?_⟩
    rintro ⟨i, hi⟩
    refine ⟨fun h => ?_, fun h => ?_⟩
    · have h : i < xs.length := by have h : (i : Int) < ((ePrs xs).length : Nat) := of_decide_eq_true h; simp [ePrs] at h; omega
      have hx := hs1 _ (List.getElem_mem h)
      have hxp := hs1.pl _ (List.getElem_mem h)
      have hgx := getPr h
      have hB := hBy xs[i] hxp
      have hCk := fun N => hCk N xs[i] hxp
      have hC1 := fun v => byE_chk (m := m) (is := is) (g := []) (xs[i].ty.sz + 1) xs[i] v
      have hins1 := fun v => by_ins (m := m) (is := is) (xs[i].ty.sz + 1) xs[i] v
      have hon := fun N v (h1 : insB v = true) (h2 : chkE m is [] N xs[i] v = true) => ins_by (m := m) (is := is) hy hU N xs[i] v hx.1 h1 h2 (xs[i].ty.sz + 1) (by omega)
      have hEv := fun v => byE_ok (cs := m) hrl hrs hins W.sml [] (by simp) 6 (xs[i].ty.sz + 1) xs[i] v hx.2.2 (by decide)
      have hn : xs.length - (i + 1) < xs.length - i := by omega
      generalize xs[i] = x at *
      revert hB hC1 hins1 hon hEv
      generalize byE m is [] (x.ty.sz + 1) x = o
      intro hB hC1 hins1 hon hEv
      rw [evR_get] at hB
      -- what By tells
      have hvf : ∃ K, FwE K w ∧ FwE K (o.getD zEv) := by
        cases o with
        | none => exact ⟨5, hwf, ⟨by decide, fun x hx => by simp [zEv] at hx⟩⟩
        | some v =>
          obtain ⟨K, hK⟩ := (hEv v rfl).1.fw
          exact ⟨max 5 K, hwf.mono _ (Nat.le_max_left _ _), hK.mono _ (Nat.le_max_right _ _)⟩
      obtain ⟨K, hwK, hvK⟩ := hvf
      have hvI := insts_ok K _ hvK
      have hvC := hCk K _ hvK.dp
      refine ⟨_, by omega, hgx, rfl, ?_⟩
      refine .inl ⟨_, hB, ?_⟩
      have hCk := fun v hv => hCk K v (FwE.dp hv)
      cases o with
      | none =>
        refine ⟨fun hbs => ?_, fun hbs => ?_⟩ <;> first | (exfalso; revert hbs; (simp [errO]); done) | skip
        refine ⟨by kernel_rfl, ?_⟩
        simp only [Option.getD_none] at hvK
        refine ⟨{p : Nat × List Ev // p.1 ≤ 4 ∧ p.2.length ≤ 1 + p.1 ∧ ∀ u ∈ p.2, FwE K u}, fun p => { vs := [(7, .v (eEnv m mm is)), (9, .v (.sl (ePrs xs))), (10, .box 0 (eV w)), (12, sv (i : Nat)), (13, .box 0 (eV zEv)), (14, .v (.lit (.int .i64 33))), (15, .v (.sl (eEvs p.1.2))), (16, sv (p.1.1 : Nat))], ow := [(15, 0, 4)] },
          fun p => 4 - p.1.1, ⟨(0, [w]), Nat.zero_le _, Nat.le_refl _, fun u hu => by simp at hu; subst hu; exact hwK⟩, ⟨⟨rfl, rfl, rfl, rfl, rfl, rfl, ?_, rfl, trivial⟩, ⟨rfl, trivial⟩, rfl⟩, ?_⟩
        · show SV.v (.sl [eV w]) = SV.v (.sl (eEvs [w]))
          exact congrArg (fun l => SV.v (.sl l)) (eEvs_snocV [] w)
        rintro ⟨⟨k, al⟩, hk, hal, hau⟩
        simp only at hk hal hau
        refine ⟨fun h2 => ?_, fun h2 => ?_⟩
        · have h2 : k < 4 := by have h : (k : Int) < 4 := of_decide_eq_true h2; omega
          refine ⟨by decide, ?_⟩
          have hT := turned_ok (wI (1 + Int.tmod (fE w) 3)) K zEv (k : Nat) hvK
          have hTf := trnE_fw (wI (1 + Int.tmod (fE w) 3)) K zEv hvK (k : Nat)
          revert hT hTf
          generalize trnE (wI (1 + Int.tmod (fE w) 3)) K zEv (k : Nat) = tu
          obtain ⟨u, at'⟩ := tu
          intro hT hTf
          simp only at hTf
          refine .inl ⟨_, hT, ?_⟩
          refine ⟨by have := eEvs_len al; show (eEvs al).length + 1 ≤ 4294967296; omega, uniEv al, uni1 rfl, ?_⟩
          refine ⟨⟨(k + 1, al ++ [u]), h2, by simp; omega, fun y hy => ?_⟩, (show 4 - (k + 1) < 4 - k by omega), ⟨rfl, rfl, rfl, rfl, rfl, rfl, ?_, svc (wrap_succ (k := k) (by omega)), trivial⟩, ⟨rfl, trivial⟩, rfl⟩
          · rcases List.mem_append.1 hy with hy | hy
            · exact hau y hy
            · simp at hy; subst hy; exact hTf
          · show SV.v (.sl (eEvs al ++ [eV u])) = _
            rw [eEvs_snocV]
        · refine ⟨{j : Nat // j ≤ al.length}, fun j => { vs := [(7, .v (eEnv m mm is)), (9, .v (.sl (ePrs xs))), (10, .box 0 (eV w)), (12, sv (i : Nat)), (13, .box 0 (eV zEv)), (14, .v (.lit (.int .i64 33))), (15, .v (.sl (eEvs al))), (19, sv (j.1 : Nat))] },
            fun j => al.length - j.1, ⟨0, Nat.zero_le _⟩, ⟨⟨rfl, rfl, rfl, rfl, rfl, rfl, rfl, rfl, trivial⟩, trivial, rfl⟩, ?_⟩
          rintro ⟨j, hj⟩
          refine ⟨fun h3 => ?_, fun h3 => ?_⟩
          · have h3 : j < al.length := by have h : (j : Int) < ((eEvs al).length : Nat) := of_decide_eq_true h3; rw [eEvs_len] at h; omega
            have hu := hau _ (List.getElem_mem h3)
            have hgu := getEv h3
            have hI := insts_ok K _ hu
            have hC := hCk _ hu
            have hon := hon K al[j]
            have hEv := fun (e : (none : Option Ev) = some al[j]) => (hEv al[j] e).1
            have hn2 : al.length - (j + 1) < al.length - j := by omega
            revert hI hC hon hgu
            generalize al[j] = u at *
            intro hgu hI hC hon
            refine ⟨_, by omega, hgu, rfl, ?_⟩
            refine .inl ⟨_, hI, ?_⟩
            cases hi1 : insB u with
            | false =>
              refine ⟨fun hbs => ?_, fun hbs => ?_⟩ <;> first | (exfalso; revert hbs; (simp); done) | skip
              refine ⟨by kernel_rfl, ?_⟩
              exact ⟨⟨j + 1, h3⟩, hn2, ⟨rfl, rfl, rfl, rfl, rfl, rfl, rfl, svc (wrap_succ (k := j) (by omega)), trivial⟩, trivial, rfl⟩
            | true =>
              refine ⟨fun hbs => ?_, fun hbs => ?_⟩ <;> first | (exfalso; revert hbs; (simp); done) | skip
              refine ⟨_, by omega, hgx, rfl, ?_⟩
              refine ⟨_, by omega, hgu, rfl, ?_⟩
              refine .inl ⟨_, hC, ?_⟩
              cases hi2 : chkE m is [] K x u with
              | false =>
                refine ⟨fun hbs => ?_, fun hbs => ?_⟩ <;> first | (exfalso; revert hbs; (simp); done) | skip
                refine ⟨by kernel_rfl, ?_⟩
                exact ⟨⟨j + 1, h3⟩, hn2, ⟨rfl, rfl, rfl, rfl, rfl, rfl, rfl, svc (wrap_succ (k := j) (by omega)), trivial⟩, trivial, rfl⟩
              | true =>
                have := hon hi1 hi2
                cases this
          · exact ⟨⟨i + 1, h⟩, hn, ⟨rfl, rfl, rfl, svc (wrap_succ (k := i) (by omega)), trivial⟩, trivial, rfl⟩
      | some v =>
        simp only [Option.getD_some] at hvI hvC
        rw [hins1 v rfl] at hvI
        rw [hC1 v rfl K hvK.dp] at hvC
        refine ⟨fun hbs => ?_, fun hbs => ?_⟩ <;> first | (exfalso; revert hbs; (simp [errO]); done) | skip
        refine .inl ⟨_, hvI, ?_⟩
        refine ⟨fun hbs => ?_, fun hbs => ?_⟩ <;> first | (exfalso; revert hbs; (simp); done) | skip
        refine ⟨_, by omega, hgx, rfl, ?_⟩
        refine .inl ⟨_, hvC, ?_⟩
        refine ⟨by kernel_rfl, ?_⟩
        refine ⟨fun hbs => ?_, fun hbs => ?_⟩ <;> first | (exfalso; revert hbs; (simp); done) | skip
        simp only [Option.getD_some] at hvK
        refine ⟨{p : Nat × List Ev // p.1 ≤ 4 ∧ p.2.length ≤ 1 + p.1 ∧ ∀ u ∈ p.2, FwE K u}, fun p => { vs := [(7, .v (eEnv m mm is)), (9, .v (.sl (ePrs xs))), (10, .box 0 (eV w)), (12, sv (i : Nat)), (13, .box 0 (eV v)), (14, .v (.lit (.int .i64 0))), (15, .v (.sl (eEvs p.1.2))), (16, sv (p.1.1 : Nat))], ow := [(15, 0, 4)] },
          fun p => 4 - p.1.1, ⟨(0, [w]), Nat.zero_le _, Nat.le_refl _, fun u hu => by simp at hu; subst hu; exact hwK⟩, ⟨⟨rfl, rfl, rfl, rfl, rfl, rfl, ?_, rfl, trivial⟩, ⟨rfl, trivial⟩, rfl⟩, ?_⟩
        · show SV.v (.sl [eV w]) = SV.v (.sl (eEvs [w]))
          exact congrArg (fun l => SV.v (.sl l)) (eEvs_snocV [] w)
        rintro ⟨⟨k, al⟩, hk, hal, hau⟩
        simp only at hk hal hau
        refine ⟨fun h2 => ?_, fun h2 => ?_⟩
        · have h2 : k < 4 := by have h : (k : Int) < 4 := of_decide_eq_true h2; omega
          refine ⟨by decide, ?_⟩
          have hT := turned_ok (wI (1 + Int.tmod (fE w) 3)) K v (k : Nat) hvK
          have hTf := trnE_fw (wI (1 + Int.tmod (fE w) 3)) K v hvK (k : Nat)
          revert hT hTf
          generalize trnE (wI (1 + Int.tmod (fE w) 3)) K v (k : Nat) = tu
          obtain ⟨u, at'⟩ := tu
          intro hT hTf
          simp only at hTf
          refine .inl ⟨_, hT, ?_⟩
          refine ⟨by have := eEvs_len al; show (eEvs al).length + 1 ≤ 4294967296; omega, uniEv al, uni1 rfl, ?_⟩
          refine ⟨⟨(k + 1, al ++ [u]), h2, by simp; omega, fun y hy => ?_⟩, (show 4 - (k + 1) < 4 - k by omega), ⟨rfl, rfl, rfl, rfl, rfl, rfl, ?_, svc (wrap_succ (k := k) (by omega)), trivial⟩, ⟨rfl, trivial⟩, rfl⟩
          · rcases List.mem_append.1 hy with hy | hy
            · exact hau y hy
            · simp at hy; subst hy; exact hTf
          · show SV.v (.sl (eEvs al ++ [eV u])) = _
            rw [eEvs_snocV]
        · refine ⟨{j : Nat // j ≤ al.length}, fun j => { vs := [(7, .v (eEnv m mm is)), (9, .v (.sl (ePrs xs))), (10, .box 0 (eV w)), (12, sv (i : Nat)), (13, .box 0 (eV v)), (14, .v (.lit (.int .i64 0))), (15, .v (.sl (eEvs al))), (19, sv (j.1 : Nat))] },
            fun j => al.length - j.1, ⟨0, Nat.zero_le _⟩, ⟨⟨rfl, rfl, rfl, rfl, rfl, rfl, rfl, rfl, trivial⟩, trivial, rfl⟩, ?_⟩
          rintro ⟨j, hj⟩
          refine ⟨fun h3 => ?_, fun h3 => ?_⟩
          · have h3 : j < al.length := by have h : (j : Int) < ((eEvs al).length : Nat) := of_decide_eq_true h3; rw [eEvs_len] at h; omega
            have hu := hau _ (List.getElem_mem h3)
            have hgu := getEv h3
            have hI := insts_ok K _ hu
            have hC := hCk _ hu
            have hon := hon K al[j]
            have hEv := fun (e : some v = some al[j]) => (hEv al[j] e).1
            have hn2 : al.length - (j + 1) < al.length - j := by omega
            revert hI hC hon hgu
            generalize al[j] = u at *
            intro hgu hI hC hon
            refine ⟨_, by omega, hgu, rfl, ?_⟩
            refine .inl ⟨_, hI, ?_⟩
            cases hi1 : insB u with
            | false =>
              refine ⟨fun hbs => ?_, fun hbs => ?_⟩ <;> first | (exfalso; revert hbs; (simp); done) | skip
              refine ⟨by kernel_rfl, ?_⟩
              exact ⟨⟨j + 1, h3⟩, hn2, ⟨rfl, rfl, rfl, rfl, rfl, rfl, rfl, svc (wrap_succ (k := j) (by omega)), trivial⟩, trivial, rfl⟩
            | true =>
              refine ⟨fun hbs => ?_, fun hbs => ?_⟩ <;> first | (exfalso; revert hbs; (simp); done) | skip
              refine ⟨_, by omega, hgx, rfl, ?_⟩
              refine ⟨_, by omega, hgu, rfl, ?_⟩
              refine .inl ⟨_, hC, ?_⟩
              cases hi2 : chkE m is [] K x u with
              | false =>
                refine ⟨fun hbs => ?_, fun hbs => ?_⟩ <;> first | (exfalso; revert hbs; (simp); done) | skip
                refine ⟨by kernel_rfl, ?_⟩
                exact ⟨⟨j + 1, h3⟩, hn2, ⟨rfl, rfl, rfl, rfl, rfl, rfl, rfl, svc (wrap_succ (k := j) (by omega)), trivial⟩, trivial, rfl⟩
              | true =>
                have hvu := hon hi1 hi2
                injection hvu with hvu
                subst hvu
                have hS := rsame_ok (hEv rfl)
                refine ⟨fun hbs => ?_, fun hbs => ?_⟩ <;> first | (exfalso; revert hbs; (simp); done) | skip
                refine ⟨fun hbs => ?_, fun hbs => ?_⟩ <;> first | (exfalso; revert hbs; (simp); done) | skip
                refine ⟨_, by omega, hgu, rfl, ?_⟩
                refine .inl ⟨_, hS, ?_⟩
                refine ⟨by kernel_rfl, ?_⟩
                refine ⟨fun hbs => ?_, fun hbs => ?_⟩ <;> first | (exfalso; revert hbs; (simp); done) | skip
                exact ⟨⟨j + 1, h3⟩, hn2, ⟨rfl, rfl, rfl, rfl, rfl, rfl, rfl, svc (wrap_succ (k := j) (by omega)), trivial⟩, trivial, rfl⟩
          · exact ⟨⟨i + 1, h⟩, hn, ⟨rfl, rfl, rfl, svc (wrap_succ (k := i) (by omega)), trivial⟩, trivial, rfl⟩
    · refine .inl ⟨_, lives_ok, ?_⟩
      exact rfl
end Go.Proofs.YtkhnjmbgkakngaaDoor
