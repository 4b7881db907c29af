/- The law EntailGrows. -/
import Derived.Test.YtkhnjmbgkakngaaDoorQ
import Derived.Test.YtkhnjmbgkakngaaDoorFpL
set_option linter.unusedSimpArgs false
set_option linter.unusedVariables false
namespace Go.Proofs.YtkhnjmbgkakngaaDoor
open Go Fp
set_option maxRecDepth 10000
set_option maxHeartbeats 8000000
set_option linter.unusedVariables false
set_option linter.unusedSimpArgs false

theorem grows {m : List Cl} {is : List In} (hy : ∀ y ∈ is, WIn y) {g : List PR} (more : List PR) (ps : Env') {x : PR} {v : Ev} (hx : nA x.ty) (hp : nA (putP ps x).ty) (h : byE m is g (x.ty.sz + 1) x = some v) :
    (∃ a, byE m is (g ++ more) (x.ty.sz + 1) x = some a) ∧ (∃ b, byE m is (more ++ g) (x.ty.sz + 1) x = some b) ∧ (∃ w, byE m is (g.map (putP ps)) ((putP ps x).ty.sz + 1) (putP ps x) = some w) := by
  have hD := byE_dv _ _ _ h
  exact ⟨dv_byE hy (hD.mono fun q hq => List.mem_append_left _ hq) hx _ (by omega), dv_byE hy (hD.mono fun q hq => List.mem_append_right _ hq) hx _ (by omega), dv_byE hy (hD.put hy ps) hp _ (by omega)⟩
theorem entailGrows_ok {l0 l1 l2 l3 l4 : List Int} {n : Int} (hl0 : l0.length < 9223372036854775808) (hr0 : ∀ x ∈ l0, InR x) (hl1 : l1.length < 9223372036854775808) (hr1 : ∀ x ∈ l1, InR x) (hl2 : l2.length < 9223372036854775808) (hr2 : ∀ x ∈ l2, InR x) (hl3 : l3.length < 9223372036854775808) (hr3 : ∀ x ∈ l3, InR x) (hl4 : l4.length < 9223372036854775808) (hr4 : ∀ x ∈ l4, InR x) (hn : InR n) :
    ACall Tryd.prog n_fuguelaw12_EntailGrows [.sl (eIs l0), .agg [.sl (eIs l1), .sl (eIs l2), .sl (eIs l3), .sl (eIs l4)], .lit (.int .i64 n)] (.sb true) := by
  obtain ⟨cs, is, W, hW⟩ := world_good hl0 hr0
  obtain ⟨b, e, q, hN, he⟩ := newW_ok W
  have hP1 := preds_ok hl1 hr1 3 (by decide)
  have hP2 := preds_ok hl2 hr2 3 (by decide)
  have hP3 := preds_ok hl3 hr3 3 (by decide)
  have hg1 := prd_len 3 (l1.take 30)
  have hg2 := prd_len 3 (l2.take 30)
  have hg3 := prd_len 3 (l3.take 30)
  have hs1 := prd_plS hr1 3
  have hs2 := prd_plS hr2 3
  have hs3 := prd_plS hr3 3
  revert hP1 hP2 hP3 hg1 hg2 hg3 hs1 hs2 hs3
  generalize prd 3 (l1.take 30) = g
  generalize prd 3 (l2.take 30) = more
  generalize prd 3 (l3.take 30) = xs
  intro hP1 hP2 hP3 hg1 hg2 hg3 hs1 hs2 hs3
  obtain ⟨nm, _, hNm⟩ := name_ok (rem3 hn)
  obtain ⟨ty, hty, hTy⟩ := type_ok hl4 hr4
  refine acall_of_wsem ttok mixed Tryd.func4 rfl (by rfl) (Nat.le_of_ble_eq_true rfl) (by kernel_rfl) ?_
  refine Wsem.seq ttok mixed ?_
  refine Wsem.seq ttok mixed ?_
  refine .inl ⟨_, hW, ?_⟩
  refine .inr (.inr (.inr (.inr (.inr (.inl ⟨[], [], [], _, rfl, by decide, rfl, hN, ?_⟩)))))
  rintro r o h ⟨rfl, rfl, rfl⟩
  cases b with
  | false =>
    simp only [Bool.false_eq_true, if_false] at he
    subst he
    refine Wsem.cut { vs := [(7, .v (.lit (.pointer none)))] } ⟨⟨rfl, trivial⟩, trivial, rfl⟩ ?_
    refine Wsem.of ttok mixed ?_
    refine .inl ⟨_, lives_ok, ?_⟩
    exact rfl
  | true =>
    simp only [if_true] at he
    subst he
    have hfew := W.few
    have hins := W.ins
    have hrl : cs.reverse.length < 1000 := by rw [List.length_reverse]; omega
    have hrs : ∀ c ∈ cs.reverse, c.sup.length < 1000 := fun c hc => by have := W.sup c (List.mem_reverse.1 hc); omega
    have hrm : ∀ c ∈ cs.reverse, c.mth.length < 1000 := fun c hc => by have := W.mth c (List.mem_reverse.1 hc); omega
    have hy : ∀ y ∈ is, WIn y := fun y hy => (W.sml y hy).win
    generalize eM (mthAll cs cs.length) = mm
    have hBy := fun (g : List PR) (hg : g.length < 100000) (hgp : ∀ q ∈ g, nA q.ty ∧ q.ty.sz < 1000000) (z : PR) (hz : nA z.ty ∧ z.ty.sz < 1000000) => by_ok cs.reverse mm is g hrl hrs (by omega) hy hg hgp (z.ty.sz + 1) z hz.1 hz.2 (by omega)
    have hCk := fun (g : List PR) (hgp : ∀ q ∈ g, nA q.ty ∧ q.ty.sz < 1000000) (N : Nat) (z : PR) (hz : nA z.ty ∧ z.ty.sz < 1000000) (v : Ev) (hv : Dp N v) => check_ok cs.reverse mm is hrs hrm (by omega) hy g hgp N z v hv hz.1 hz.2
    generalize cs.reverse = m at *
    have hgl : (ePrs g).length = g.length := by simp [ePrs]
    refine Wsem.cut { vs := [(2, .v (.lit (.int .i64 n))), (4, .box 0 (.agg [.sl (eIs l1), .sl (eIs l2), .sl (eIs l3), .sl (eIs l4)])), (7, .v (eEnv m mm is))] } ⟨⟨rfl, rfl, rfl, trivial⟩, trivial, rfl⟩ ?_
    refine Wsem.seq ttok mixed ?_
    refine Wsem.shut 4 rfl ?_
    refine Wsem.cut { vs := [(2, .v (.lit (.int .i64 n))), (4, .v (.ptr [.sl (eIs l1), .sl (eIs l2), .sl (eIs l3), .sl (eIs l4)])), (7, .v (eEnv m mm is))] } ⟨⟨rfl, rfl, rfl, trivial⟩, trivial, rfl⟩ ?_
    refine Wsem.seqS (Wsem.regionIx ttok rfl rfl rfl Tryd.underlying54 Tryd.sizeOf22 (by decide) (by decide) rfl ?_)
    refine .inl ⟨_, hP1, ?_⟩
    refine Wsem.cut { vs := [(2, .v (.lit (.int .i64 n))), (4, .v (.ptr [.sl (eIs l1), .sl (eIs l2), .sl (eIs l3), .sl (eIs l4)])), (7, .v (eEnv m mm is)), (9, .v (.sl (ePrs g)))] } ⟨⟨rfl, rfl, rfl, rfl, trivial⟩, trivial, rfl⟩ ?_
    refine Wsem.seqS (Wsem.regionIx ttok rfl rfl rfl Tryd.underlying54 Tryd.sizeOf22 (by decide) (by decide) rfl ?_)
    refine .inl ⟨_, hP2, ?_⟩
    refine Wsem.cut { vs := [(2, .v (.lit (.int .i64 n))), (4, .v (.ptr [.sl (eIs l1), .sl (eIs l2), .sl (eIs l3), .sl (eIs l4)])), (7, .v (eEnv m mm is)), (9, .v (.sl (ePrs g))), (10, .v (.sl (ePrs more)))] } ⟨⟨rfl, rfl, rfl, rfl, rfl, trivial⟩, trivial, rfl⟩ ?_
    refine Wsem.seqS (Wsem.regionIx ttok rfl rfl rfl Tryd.underlying54 Tryd.sizeOf22 (by decide) (by decide) rfl ?_)
    refine .inl ⟨_, hP3, ?_⟩
    refine Wsem.cut { vs := [(2, .v (.lit (.int .i64 n))), (4, .v (.ptr [.sl (eIs l1), .sl (eIs l2), .sl (eIs l3), .sl (eIs l4)])), (7, .v (eEnv m mm is)), (9, .v (.sl (ePrs g))), (10, .v (.sl (ePrs more))), (11, .v (.sl (ePrs xs)))] } ⟨⟨rfl, rfl, rfl, rfl, rfl, rfl, trivial⟩, trivial, rfl⟩ ?_
    refine Wsem.seq ttok mixed ?_
    refine ⟨by decide, ?_⟩
    refine .inl ⟨_, hNm, ?_⟩
    refine Wsem.cut { vs := [(4, .v (.ptr [.sl (eIs l1), .sl (eIs l2), .sl (eIs l3), .sl (eIs l4)])), (7, .v (eEnv m mm is)), (9, .v (.sl (ePrs g))), (10, .v (.sl (ePrs more))), (11, .v (.sl (ePrs xs))), (12, .v (.sl (eN [(nm, ty)])))] } ⟨⟨rfl, rfl, rfl, rfl, rfl, rfl, trivial⟩, trivial, rfl⟩ ?_
    refine Wsem.seqS (Wsem.regionIx ttok rfl rfl rfl Tryd.underlying54 Tryd.sizeOf22 (by decide) (by decide) rfl ?_)
    refine .inl ⟨_, hTy, ?_⟩
    refine Wsem.cut { vs := [(7, .v (eEnv m mm is)), (9, .v (.sl (ePrs g))), (10, .v (.sl (ePrs more))), (11, .v (.sl (ePrs xs))), (12, .v (.sl (eN [(nm, ty)]))), (13, .v (.sl (eB [(nm, ty)])))] } ⟨⟨rfl, rfl, rfl, rfl, rfl, rfl, trivial⟩, trivial, rfl⟩ ?_
    have hpt : ∀ q : PR, nA q.ty ∧ q.ty.sz ≤ 29 ∧ hgt q.ty ≤ 6 → nA (putP [(nm, ty)] q).ty ∧ (putP [(nm, ty)] q).ty.sz < 1000000 := fun q hq => sub_one hty.na (by have := hty.sz; omega) hq.1 hq.2.1
    have hSb := fun (q : PR) (hq : nA q.ty ∧ q.ty.sz ≤ 29 ∧ hgt q.ty ≤ 6) => (substN_ok [(nm, ty)] (by simp) q.ty hq.1 : ACall _ _ _ _)
    clear hTy hNm hP1 hP2 hP3 hW hN
    generalize [(nm, ty)] = ps at hpt hSb ⊢
    refine Wsem.seq ttok mixed ?_
    refine Wsem.seq ttok mixed ?_
    refine ⟨{i : Nat // i ≤ g.length}, fun i => { vs := [(7, .v (eEnv m mm is)), (9, .v (.sl (ePrs g))), (10, .v (.sl (ePrs more))), (11, .v (.sl (ePrs xs))), (12, .v (.sl (eN ps))), (13, .v (.sl (eB ps))), (14, .v (.sl (ePrs ((g.take i.1).map (putP ps))))), (15, sv (i.1 : Nat))], ow := [(14, 0, 6)] },
      fun i => g.length - i.1, ⟨0, Nat.zero_le _⟩, ⟨⟨rfl, rfl, rfl, rfl, rfl, rfl, rfl, rfl, trivial⟩, ⟨trivial, trivial⟩, rfl⟩, ?_⟩
    rintro ⟨i, hi⟩
    refine ⟨fun h => ?_, fun h => ?_⟩
    · have h : i < g.length := by have h : (i : Int) < ((ePrs g).length : Nat) := of_decide_eq_true h; omega
      have hS := hSb g[i] (hs1 _ (List.getElem_mem h))
      refine ⟨_, by omega, getPr h, rfl, ?_⟩
      refine ⟨_, by omega, getPr h, rfl, ?_⟩
      refine .inl ⟨_, hS, ?_⟩
      refine ⟨by show (ePrs _).length + 1 ≤ 4294967296; simp [ePrs]; omega, uniPr _, uni1 rfl, ?_⟩
      refine ⟨by kernel_rfl, ?_⟩
      refine ⟨⟨i + 1, h⟩, (show g.length - (i + 1) < g.length - i by omega), ⟨rfl, rfl, rfl, rfl, rfl, rfl, ?_, svc (wrap_succ (k := i) (by omega)), trivial⟩, ⟨rfl, trivial⟩, rfl⟩
      show SV.v (.sl (ePrs ((g.take i).map (putP ps)) ++ [ePr (putP ps g[i])])) = _
      rw [takePr (putP ps) h]
    · have h : i = g.length := by have h : ¬ (i : Int) < ((ePrs g).length : Nat) := of_decide_eq_false h; omega
      subst h
      rw [List.take_length]
      have hput : ∀ q ∈ g.map (putP ps), nA q.ty ∧ q.ty.sz < 1000000 := fun q hq => by
        obtain ⟨p, hp, rfl⟩ := List.mem_map.1 hq
        exact hpt p (hs1 p hp)
      have hpl : (g.map (putP ps)).length ≤ 3 := by rw [List.length_map]; exact hg1
      refine Wsem.cut { vs := [(7, .v (eEnv m mm is)), (9, .v (.sl (ePrs g))), (10, .v (.sl (ePrs more))), (11, .v (.sl (ePrs xs))), (12, .v (.sl (eN ps))), (13, .v (.sl (eB ps))), (14, .v (.sl (ePrs (g.map (putP ps)))))] } ⟨⟨rfl, rfl, rfl, rfl, rfl, rfl, rfl, trivial⟩, trivial, rfl⟩ ?_
      have hpg : ePrs g ++ ePrs more = ePrs (g ++ more) := by simp [ePrs]
      have hgm : ePrs more ++ ePrs g = ePrs (more ++ g) := by simp [ePrs]
      have hbh : ∀ q ∈ g ++ more, nA q.ty ∧ q.ty.sz < 1000000 := fun q hq => (List.mem_append.1 hq).elim (hs1.pl q) (hs2.pl q)
      have hah : ∀ q ∈ more ++ g, nA q.ty ∧ q.ty.sz < 1000000 := fun q hq => (List.mem_append.1 hq).elim (hs2.pl q) (hs1.pl q)
      have hml : (ePrs more).length = more.length := by simp [ePrs]
      refine Wsem.seq ttok mixed ?_
      refine ⟨{i : Nat // i ≤ xs.length}, fun i => { vs := [(7, .v (eEnv m mm is)), (9, .v (.sl (ePrs g))), (10, .v (.sl (ePrs more))), (11, .v (.sl (ePrs xs))), (12, .v (.sl (eN ps))), (13, .v (.sl (eB ps))), (14, .v (.sl (ePrs (g.map (putP ps))))), (16, sv (i.1 : Nat))] },
        fun i => xs.length - i.1, ⟨0, Nat.zero_le _⟩, ⟨⟨rfl, rfl, rfl, rfl, rfl, rfl, rfl, rfl, trivial⟩, trivial, rfl⟩, ?_⟩
      rintro ⟨i, hi⟩
      refine ⟨fun h => ?_, fun h => ?_⟩
      · have h : i < xs.length := by have h : (i : Int) < ((ePrs xs).length : Nat) := of_decide_eq_true h; simp [ePrs] at h; omega
        have hx := hs3 _ (List.getElem_mem h)
        have hxp := hs3.pl _ (List.getElem_mem h)
        have hgx := getPr h
        have hyp := hpt _ hx
        have hB := hBy g (by omega) hs1.pl xs[i] hxp
        have hgr := fun v => grows (m := m) (is := is) hy more ps (x := xs[i]) (v := v) (g := g) hx.1 hyp.1
        have hC1 := fun v => byE_chk (m := m) (is := is) (g := g) (xs[i].ty.sz + 1) xs[i] v
        have hCp := fun v => byE_chk (m := m) (is := is) (g := g.map (putP ps)) ((putP ps xs[i]).ty.sz + 1) (putP ps xs[i]) v
        have hSb := hSb xs[i] hx
        have hn : xs.length - (i + 1) < xs.length - i := by omega
        generalize xs[i] = x at *
        have hA := hBy (g ++ more) (by rw [List.length_append]; omega) hbh x hxp
        have hH := hBy (more ++ g) (by rw [List.length_append]; omega) hah x hxp
        have hW := hBy (g.map (putP ps)) (by omega) hput (putP ps x) hyp
        revert hB hgr hC1
        generalize byE m is g (x.ty.sz + 1) x = o
        intro hB hgr hC1
        refine ⟨_, by omega, hgx, rfl, ?_⟩
        refine .inl ⟨_, hB, ?_⟩
        cases o with
        | none =>
          refine ⟨fun hbs => ?_, fun hbs => ?_⟩ <;> first | (exfalso; revert hbs; (simp); done) | skip
          refine ⟨fun hbs => ?_, fun hbs => ?_⟩ <;> first | (exfalso; revert hbs; (simp); done) | skip
          refine ⟨fun hbs => ?_, fun hbs => ?_⟩ <;> first | (exfalso; revert hbs; (simp [kE, eEvs_len]); done) | skip
          refine ⟨fun hbs => ?_, fun hbs => ?_⟩ <;> first | (exfalso; revert hbs; (simp [fE]); done) | skip
          exact ⟨⟨i + 1, h⟩, hn, ⟨rfl, rfl, rfl, rfl, rfl, rfl, rfl, svc (wrap_succ (k := i) (by omega)), trivial⟩, trivial, rfl⟩
        | some v =>
          obtain ⟨⟨va, ea⟩, ⟨vb, eb⟩, ⟨w, ew⟩⟩ := hgr v rfl
          have hC1 := hC1 v rfl
          have hCp := hCp w ew
          rw [ea] at hA
          rw [eb] at hH
          rw [ew] at hW
          obtain ⟨N, hN⟩ := ex_dp v
          obtain ⟨M, hM⟩ := ex_dp w
          have k1 := hCk g hs1.pl N x hxp v hN
          have k2 := hCk (g ++ more) hbh N x hxp v hN
          have k3 := hCk (g.map (putP ps)) hput N (putP ps x) hyp v hN
          have k4 := hCk (g.map (putP ps)) hput M (putP ps x) hyp w hM
          rw [hC1 N hN] at k1
          rw [chk_more more N x v (hC1 N hN)] at k2
          rw [chk_put hy ps N x v (hC1 N hN)] at k3
          rw [hCp M hM] at k4
          refine ⟨fun hbs => ?_, fun hbs => ?_⟩ <;> first | (exfalso; revert hbs; (simp); done) | skip
          refine ⟨by show 0 + (ePrs g).length ≤ 4294967296; omega, uni0 _, uniPr _, ?_⟩
          refine ⟨by show (ePrs g).length + (ePrs more).length ≤ 4294967296; omega, uniPr _, uniPr _, ?_⟩
          refine ⟨by show 0 + (ePrs more).length ≤ 4294967296; omega, uni0 _, uniPr _, ?_⟩
          refine ⟨by show (ePrs more).length + (ePrs g).length ≤ 4294967296; omega, uniPr _, uniPr _, ?_⟩
          refine ⟨_, by omega, hgx, rfl, ?_⟩
          rw [← hpg] at hA k2
          rw [← hgm] at hH
          refine .inl ⟨_, hA, ?_⟩
          refine ⟨_, by omega, hgx, rfl, ?_⟩
          refine .inl ⟨_, hH, ?_⟩
          refine ⟨_, by omega, hgx, rfl, ?_⟩
          refine ⟨_, by omega, hgx, rfl, ?_⟩
          refine .inl ⟨_, hSb, ?_⟩
          refine ⟨by kernel_rfl, ?_⟩
          refine .inl ⟨_, hW, ?_⟩
          refine ⟨fun hbs => ?_, fun hbs => ?_⟩ <;> first | (exfalso; revert hbs; (simp); done) | skip
          refine ⟨fun hbs => ?_, fun hbs => ?_⟩ <;> first | (exfalso; revert hbs; (simp); done) | skip
          refine ⟨fun hbs => ?_, fun hbs => ?_⟩ <;> first | (exfalso; revert hbs; (simp); done) | skip
          refine ⟨_, by omega, hgx, rfl, ?_⟩
          refine .inl ⟨_, k1, ?_⟩
          refine ⟨fun hbs => ?_, fun hbs => ?_⟩ <;> first | (exfalso; revert hbs; (simp); done) | skip
          refine ⟨_, by omega, hgx, rfl, ?_⟩
          refine .inl ⟨_, k2, ?_⟩
          refine ⟨fun hbs => ?_, fun hbs => ?_⟩ <;> first | (exfalso; revert hbs; (simp); done) | skip
          refine .inl ⟨_, k3, ?_⟩
          refine ⟨fun hbs => ?_, fun hbs => ?_⟩ <;> first | (exfalso; revert hbs; (simp); done) | skip
          refine .inl ⟨_, k4, ?_⟩
          refine ⟨by kernel_rfl, ?_⟩
          refine ⟨fun hbs => ?_, fun hbs => ?_⟩ <;> first | (exfalso; revert hbs; (simp); done) | skip
          exact ⟨⟨i + 1, h⟩, hn, ⟨rfl, rfl, rfl, rfl, rfl, rfl, rfl, svc (wrap_succ (k := i) (by omega)), trivial⟩, trivial, rfl⟩
      · refine Wsem.of ttok mixed ?_
        refine .inl ⟨_, lives_ok, ?_⟩
        exact rfl
end Go.Proofs.YtkhnjmbgkakngaaDoor
