/- The climb. No condition but that there are few classes. -/
import Derived.Test.YtkhnjmbgkakngaaGreatDoorD
import Derived.Test.YtkhnjmbgkakngaaGreatDoorFpL
set_option linter.unusedSimpArgs false
set_option linter.unusedVariables false
namespace Go.Proofs.YtkhnjmbgkakngaaGreatDoor
open Go Fp
set_option maxRecDepth 10000
set_option maxHeartbeats 4000000
set_option linter.unusedVariables false
set_option linter.unusedSimpArgs false

theorem climb2_ok {σ : Type} (m : List Cl) (mm : List (AV × AV)) (is : List In) (step : σ → Way → Bool × σ) (b0 b1 : Nat) (c0 c1 : σ → List AV) (g : Nat) (ca : Array Value) (hm : m.length < 1000) (hsup : ∀ c ∈ m, c.sup.length < 1000)
    (hsee : ∀ s w, CallsG Tryz.prog (.func (.func g) #[] ca) [(b0, HO.cells (c0 s)), (b1, HO.cells (c1 s))] [eWy w] [] fun r o h => r = .sb (step s w).1 ∧ o = 0 ∧ h = [(b0, HO.cells (c0 (step s w).2)), (b1, HO.cells (c1 (step s w).2))]) (frm : ByteArray) (s : σ) :
    CallsG Tryz.prog (fnv n_classes_Env_climb) [(b0, HO.cells (c0 s)), (b1, HO.cells (c1 s))] [eEnv m mm is, .lit (.string frm), .lit (.func (.func g) #[] ca)] [] fun r o h => o = 0 ∧ h = [(b0, HO.cells (c0 (bfs m step (m.length + 1) [(frm, [])] [] s))), (b1, HO.cells (c1 (bfs m step (m.length + 1) [(frm, [])] [] s)))] := by
  generalize hfin : bfs m step (m.length + 1) [(frm, [])] [] s = fin
  refine CallsG.less0 (post := fun r o h => ∃ rest, h = [(b0, HO.cells (c0 fin)), (b1, HO.cells (c1 fin))] ++ rest) ?_ (fun r o h hp => by obtain ⟨rest, rfl⟩ := hp; exact ⟨_, rest, rfl, rfl, rfl⟩)
  refine callsG_of_wsem (first := []) (cap := []) ttok mixed Tryz.func66 rfl (by rfl) rfl (Nat.le_of_ble_eq_true rfl) (by kernel_rfl) ?_
  refine Wsem.seq ttok mixed ?_
  intro bm
  refine Wsem.seq ttok mixed ?_
  refine Wsem.seq ttok mixed ?_
  refine .inr (.inr (.inr (.inr (.inr (.inr ⟨rfl, fun bq => ?_⟩)))))
  refine .inr ⟨rfl, [3], _, [], _, rfl, by decide, rfl, put_nil bq (frm, []), ?_⟩
  rintro r w h ⟨rfl, st, hst, rfl⟩
  refine Wsem.seq ttok mixed ?_
  refine .inr (.inr (.inr (.inr (.inl (.inr ⟨rfl, [3, 4], _, [], _, rfl, by decide, rfl, next_cons bq (frm, []) [] st hst, ?_⟩)))))
  rintro r w h ⟨rfl, rfl, st, hst, rfl⟩
  refine Wsem.block ?_
  refine Wsem.loop (α := {p : Nat × Bool × Way × List Way × List ByteArray × σ × QSt // QOk p.2.2.2.1 p.2.2.2.2.2.2 ∧ p.1 < 2000 ∧ (if p.2.1 = true then (p.2.2.2.1.length + 1 + unseen m p.2.2.2.2.1 ≤ p.1 ∧ ∀ x ∈ p.2.2.1 :: p.2.2.2.1, x.2.length + p.1 ≤ m.length + 1) ∧ bfs m step p.1 (p.2.2.1 :: p.2.2.2.1) p.2.2.2.2.1 p.2.2.2.2.2.1 = fin else p.2.2.2.2.2.1 = fin)})
    (fun p => { vs := [(0, .v (eEnv m mm is)), (2, .v (.lit (.func (.func g) #[] ca))), (6, .v (.lit (.map (some bm)))), (7, .v (pq bq)), (8, .box 0 (eWy p.1.2.2.1)), (9, .v (.sb p.1.2.1))], hp := [(b0, HO.cells (c0 p.1.2.2.2.2.2.1)), (b1, HO.cells (c1 p.1.2.2.2.2.2.1))] ++ ([(bm, HO.mp (seenL p.1.2.2.2.2.1))] ++ qH bq p.1.2.2.2.1 p.1.2.2.2.2.2.2) })
    (fun p => p.1.1) ⟨(m.length + 1, true, (frm, []), [], [], s, st), hst, by show m.length + 1 < 2000; omega, by
      rw [if_pos rfl]
      refine ⟨?_, hfin⟩
      have : unseen m [] ≤ m.length := List.length_filter_le _ _
      exact ⟨by simp; omega, fun x hx => by simp at hx; subst hx; simp⟩⟩ ⟨⟨rfl, rfl, rfl, rfl, rfl, rfl, trivial⟩, trivial, rfl⟩ ?_
  rintro ⟨⟨n, isb, w, q, sn, s, st⟩, hst, hn, hF⟩
  simp only at hst hn hF
  refine Wsem.seq ttok mixed ?_
  refine ⟨fun h => ?_, fun h => ?_⟩
  rotate_left
  · have h : isb = false := h
    rw [if_neg (by rw [h]; simp)] at hF
    subst hF
    exact ⟨_, rfl⟩
  have h : isb = true := h
  subst h
  rw [if_pos rfl] at hF
  obtain ⟨⟨hB, hP⟩, hF⟩ := hF
  have hsl : (sups m w.1).length < 1000 ∧ (sups m w.1 = [] ∨ ∃ c, lookC m w.1 = some c ∧ sups m w.1 = c.sup) := by
    unfold sups
    cases hc : lookC m w.1 with
    | none => exact ⟨by simp, .inl rfl⟩
    | some c => exact ⟨hsup c (lookC_mem hc).1, .inr ⟨c, rfl, rfl⟩⟩
  obtain ⟨r0, hr0, hr1⟩ : ∃ r, Fp.Found (clsL m) (.string w.1) r ∧ ((r = none ∧ sups m w.1 = []) ∨ ∃ j c, r = some (j, eCl c) ∧ sups m w.1 = c.sup) := by
    rcases found_cls m w.1 with ⟨h1, h2⟩ | ⟨j, c, h1, h2⟩
    · exact ⟨_, h2, .inl ⟨rfl, by unfold sups; rw [h1]⟩⟩
    · exact ⟨_, h2, .inr ⟨j, c, rfl, by unfold sups; rw [h1]⟩⟩
  refine Wsem.seqS ?_
  refine Wsem.block ?_
  refine Wsem.seq ttok mixed ?_
  refine ⟨r0, keys_cls m, trivial, hr0, ?_⟩
  obtain ⟨n, rfl⟩ : ∃ n', n = n' + 1 := ⟨n - 1, by omega⟩
  have hF2 : ∀ V, visit m step w.2 0 (sups m w.1) q sn s = V → (match V with | ((_, _, s'), false) => s' | ((q', sn', s'), true) => bfs m step n q' sn' s') = fin := fun V hV => by
    subst hV
    rw [← hF, bfs]
    rfl
  generalize hxs : sups m w.1 = xs at hsl hr1 hF2
  rcases hr1 with ⟨rfl, h0⟩ | ⟨j, c, rfl, h0⟩
  all_goals
    refine ⟨by kernel_rfl, ?_⟩
    refine Wsem.block ?_
    refine Wsem.loop (α := {p : Nat × List Way × List ByteArray × σ × QSt // p.1 ≤ xs.length ∧ QOk p.2.1 p.2.2.2.2 ∧ (p.2.1.length + unseen m p.2.2.1 ≤ n ∧ ∀ x ∈ p.2.1, x.2.length + n ≤ m.length + 1) ∧ visit m step w.2 p.1 (xs.drop p.1) p.2.1 p.2.2.1 p.2.2.2.1 = visit m step w.2 0 xs q sn s})
      (fun p => { vs := [(0, .v (eEnv m mm is)), (2, .v (.lit (.func (.func g) #[] ca))), (6, .v (.lit (.map (some bm)))), (7, .v (pq bq)), (8, .box 0 (eWy w)), (35, .v (.sl (eSs xs))), (36, sv (xs.length : Nat)), (37, sv (p.1.1 : Nat))], hp := [(b0, HO.cells (c0 p.1.2.2.2.1)), (b1, HO.cells (c1 p.1.2.2.2.1))] ++ ([(bm, HO.mp (seenL p.1.2.2.1))] ++ qH bq p.1.2.1 p.1.2.2.2.2) })
      (fun p => xs.length - p.1.1) ⟨(0, q, sn, s, st), Nat.zero_le _, hst, ⟨by show q.length + unseen m sn ≤ n; omega, fun x hx => by have := hP x (List.mem_cons_of_mem _ hx); omega⟩, rfl⟩ ⟨⟨rfl, rfl, rfl, rfl, rfl, by rw [h0]; rfl, by rw [h0]; exact svc (by simp [eSs]), rfl, trivial⟩, trivial, rfl⟩ ?_
    rintro ⟨⟨i, q1, sn1, s1, st1⟩, hi, hst1, ⟨hB1, hP1⟩, hV⟩
    simp only at hi hst1 hB1 hP1 hV
    refine Wsem.seq ttok mixed ?_
    refine Wsem.seq ttok mixed ?_
    refine ⟨fun h => ?_, fun h => ?_⟩
    rotate_left
    · have hie : i = xs.length := by have h : ¬ ((i : Int) < (xs.length : Nat)) := of_decide_eq_false h; omega
      have hF3 := hF2 _ hV.symm
      rw [hie, List.drop_length] at hF3
      simp only [visit] at hF3
      refine Wsem.of ttok mixed ?_
      cases q1 with
      | nil =>
        refine .inr (.inr (.inr (.inr (.inl (.inr ⟨rfl, [3, 4], _, [], _, rfl, by decide, rfl, next_nil bq st1, ?_⟩)))))
        rintro r w2 h ⟨rfl, rfl, rfl⟩
        refine ⟨⟨(n, false, (.empty, []), [], sn1, s1, st1), hst1, by show n < 2000; omega, ?_⟩, Nat.lt_succ_self n, ⟨rfl, rfl, rfl, rfl, rfl, rfl, trivial⟩, trivial, rfl⟩
        rw [if_neg (by simp)]
        rw [← hF3]
        cases n <;> rfl
      | cons w1 q1 =>
        refine .inr (.inr (.inr (.inr (.inl (.inr ⟨rfl, [3, 4], _, [], _, rfl, by decide, rfl, next_cons bq w1 q1 st1 hst1, ?_⟩)))))
        rintro r w2 h ⟨rfl, rfl, st2, hst2, rfl⟩
        refine ⟨⟨(n, true, w1, q1, sn1, s1, st2), hst2, by show n < 2000; omega, ?_⟩, Nat.lt_succ_self n, ⟨rfl, rfl, rfl, rfl, rfl, rfl, trivial⟩, trivial, rfl⟩
        rw [if_pos rfl]
        exact ⟨⟨by simp at hB1; simp only; omega, hP1⟩, hF3⟩
    have h : i < xs.length := by have h : (i : Int) < (xs.length : Nat) := of_decide_eq_true h; omega
    have hdrop : xs.drop i = xs[i] :: xs.drop (i + 1) := List.drop_eq_getElem_cons h
    rw [hdrop] at hV
    refine Wsem.of ttok mixed ?_
    refine ⟨.lit (.string xs[i]), by omega, getS h, rfl, ?_⟩
    generalize hx : xs[i] = x at *
    rcases found_cls m x with ⟨e1, e2⟩ | ⟨j2, cc, e1, e2⟩
    · refine ⟨none, keys_cls m, trivial, e2, ?_⟩
      rw [visit, if_pos (by simp [exC, e1])] at hV
      refine ⟨⟨(i + 1, q1, sn1, s1, st1), h, hst1, ⟨hB1, hP1⟩, hV⟩, (show xs.length - (i + 1) < xs.length - i by omega), ⟨rfl, rfl, rfl, rfl, rfl, rfl, rfl, svc (wrap_succ (k := i) (by omega)), trivial⟩, trivial, rfl⟩
    · refine ⟨some (j2, eCl cc), keys_cls m, trivial, e2, ?_⟩
      by_cases hsx : x ∈ sn1
      · obtain ⟨j3, e3⟩ := seen_yes hsx
        refine ⟨2, _, _, rfl, keys_seen sn1, trivial, e3, ?_⟩
        rw [visit, if_pos (by rw [memb_yes hsx]; simp)] at hV
        refine ⟨⟨(i + 1, q1, sn1, s1, st1), h, hst1, ⟨hB1, hP1⟩, hV⟩, (show xs.length - (i + 1) < xs.length - i by omega), ⟨rfl, rfl, rfl, rfl, rfl, rfl, rfl, svc (wrap_succ (k := i) (by omega)), trivial⟩, trivial, rfl⟩
      · refine ⟨2, _, none, rfl, keys_seen sn1, trivial, seen_no hsx, ?_⟩
        rw [visit, if_neg (by rw [memb_no hsx]; simp [exC, e1])] at hV
        refine ⟨2, _, none, rfl, keys_seen sn1, trivial, seen_no hsx, ?_⟩
        rw [← seen_snoc]
        have hwl : w.2.length < 2000 := by have := hP w List.mem_cons_self; omega
        refine .inr (.inr (.inr (.inr (.inr (.inl ⟨[], [], [], _, rfl, List.nodup_nil, rfl, cloneI_ok w.2 (by omega), ?_⟩)))))
        rintro r w3 hh ⟨rfl, rfl, rfl⟩
        refine ⟨by simp [eIs]; omega, uniI _, uni1 rfl, ?_⟩
        refine .inr (.inr (.inr (.inl ⟨[0, 1], [(b0, HO.cells (c0 s1)), (b1, HO.cells (c1 s1))], [(b0, HO.cells (c0 (step s1 (x, w.2 ++ [(i : Int)])).2)), (b1, HO.cells (c1 (step s1 (x, w.2 ++ [(i : Int)])).2))], .sb (step s1 (x, w.2 ++ [(i : Int)])).1, rfl, by decide, rfl, ?_, ?_⟩)))
        · have e4 := hsee s1 (x, w.2 ++ [(i : Int)])
          have e5 : eWy (x, w.2 ++ [(i : Int)]) = .agg [.lit (.string x), .sl (eIs w.2 ++ [.lit (.int .i64 (i : Int))])] := by simp [eWy, eIs]
          rw [e5] at e4
          exact e4
        have hun := unseen_lt (m := m) (s := x) (by simp [exC, e1]) hsx
        generalize hst2 : step s1 (x, w.2 ++ [(i : Int)]) = S at hV
        obtain ⟨sb, s2⟩ := S
        refine ⟨fun hb => ?_, fun hb => ?_⟩
        · have hb : sb = false := by simpa using hb
          subst hb
          have hF3 := hF2 _ hV.symm
          simp only at hF3
          subst hF3
          exact ⟨_, rfl⟩
        · have hb : sb = true := by simpa using hb
          subst hb
          simp only at hV
          have e4 := put_ok bq q1 st1 hst1 (by omega) (x, w.2 ++ [(i : Int)])
          have e5 : eWy (x, w.2 ++ [(i : Int)]) = .agg [.lit (.string x), .sl (eIs w.2 ++ [.lit (.int .i64 (i : Int))])] := by simp [eWy, eIs]
          rw [e5] at e4
          refine .inr (.inr (.inr (.inr (.inl (.inr ⟨rfl, [3, 4], _, [], _, rfl, by decide, rfl, e4, ?_⟩)))))
          rintro r w4 hh ⟨rfl, st2, hst3, rfl⟩
          refine ⟨⟨(i + 1, q1 ++ [(x, w.2 ++ [(i : Int)])], sn1 ++ [x], s2, st2), h, hst3, ⟨by simp only [List.length_append, List.length_singleton]; omega, fun y hy => ?_⟩, hV⟩, (show xs.length - (i + 1) < xs.length - i by omega), ⟨rfl, rfl, rfl, rfl, rfl, rfl, rfl, svc (wrap_succ (k := i) (by omega)), trivial⟩, trivial, rfl⟩
          rcases List.mem_append.1 hy with hy | hy
          · exact hP1 y hy
          · simp only [List.mem_singleton] at hy
            subst hy
            have := hP w List.mem_cons_self
            simp only [List.length_append, List.length_singleton]
            omega

theorem climb3_ok {σ : Type} (m : List Cl) (mm : List (AV × AV)) (is : List In) (step : σ → Way → Bool × σ) (b0 b1 b2 : Nat) (c0 c1 c2 : σ → List AV) (g : Nat) (ca : Array Value) (hm : m.length < 1000) (hsup : ∀ c ∈ m, c.sup.length < 1000)
    (hsee : ∀ s w, CallsG Tryz.prog (.func (.func g) #[] ca) [(b0, HO.cells (c0 s)), (b1, HO.cells (c1 s)), (b2, HO.cells (c2 s))] [eWy w] [] fun r o h => r = .sb (step s w).1 ∧ o = 0 ∧ h = [(b0, HO.cells (c0 (step s w).2)), (b1, HO.cells (c1 (step s w).2)), (b2, HO.cells (c2 (step s w).2))]) (frm : ByteArray) (s : σ) :
    CallsG Tryz.prog (fnv n_classes_Env_climb) [(b0, HO.cells (c0 s)), (b1, HO.cells (c1 s)), (b2, HO.cells (c2 s))] [eEnv m mm is, .lit (.string frm), .lit (.func (.func g) #[] ca)] [] fun r o h => o = 0 ∧ h = [(b0, HO.cells (c0 (bfs m step (m.length + 1) [(frm, [])] [] s))), (b1, HO.cells (c1 (bfs m step (m.length + 1) [(frm, [])] [] s))), (b2, HO.cells (c2 (bfs m step (m.length + 1) [(frm, [])] [] s)))] := by
  generalize hfin : bfs m step (m.length + 1) [(frm, [])] [] s = fin
  refine CallsG.less0 (post := fun r o h => ∃ rest, h = [(b0, HO.cells (c0 fin)), (b1, HO.cells (c1 fin)), (b2, HO.cells (c2 fin))] ++ rest) ?_ (fun r o h hp => by obtain ⟨rest, rfl⟩ := hp; exact ⟨_, rest, rfl, rfl, rfl⟩)
  refine callsG_of_wsem (first := []) (cap := []) ttok mixed Tryz.func66 rfl (by rfl) rfl (Nat.le_of_ble_eq_true rfl) (by kernel_rfl) ?_
  refine Wsem.seq ttok mixed ?_
  intro bm
  refine Wsem.seq ttok mixed ?_
  refine Wsem.seq ttok mixed ?_
  refine .inr (.inr (.inr (.inr (.inr (.inr ⟨rfl, fun bq => ?_⟩)))))
  refine .inr ⟨rfl, [4], _, [], _, rfl, by decide, rfl, put_nil bq (frm, []), ?_⟩
  rintro r w h ⟨rfl, st, hst, rfl⟩
  refine Wsem.seq ttok mixed ?_
  refine .inr (.inr (.inr (.inr (.inl (.inr ⟨rfl, [4, 5], _, [], _, rfl, by decide, rfl, next_cons bq (frm, []) [] st hst, ?_⟩)))))
  rintro r w h ⟨rfl, rfl, st, hst, rfl⟩
  refine Wsem.block ?_
  refine Wsem.loop (α := {p : Nat × Bool × Way × List Way × List ByteArray × σ × QSt // QOk p.2.2.2.1 p.2.2.2.2.2.2 ∧ p.1 < 2000 ∧ (if p.2.1 = true then (p.2.2.2.1.length + 1 + unseen m p.2.2.2.2.1 ≤ p.1 ∧ ∀ x ∈ p.2.2.1 :: p.2.2.2.1, x.2.length + p.1 ≤ m.length + 1) ∧ bfs m step p.1 (p.2.2.1 :: p.2.2.2.1) p.2.2.2.2.1 p.2.2.2.2.2.1 = fin else p.2.2.2.2.2.1 = fin)})
    (fun p => { vs := [(0, .v (eEnv m mm is)), (2, .v (.lit (.func (.func g) #[] ca))), (6, .v (.lit (.map (some bm)))), (7, .v (pq bq)), (8, .box 0 (eWy p.1.2.2.1)), (9, .v (.sb p.1.2.1))], hp := [(b0, HO.cells (c0 p.1.2.2.2.2.2.1)), (b1, HO.cells (c1 p.1.2.2.2.2.2.1)), (b2, HO.cells (c2 p.1.2.2.2.2.2.1))] ++ ([(bm, HO.mp (seenL p.1.2.2.2.2.1))] ++ qH bq p.1.2.2.2.1 p.1.2.2.2.2.2.2) })
    (fun p => p.1.1) ⟨(m.length + 1, true, (frm, []), [], [], s, st), hst, by show m.length + 1 < 2000; omega, by
      rw [if_pos rfl]
      refine ⟨?_, hfin⟩
      have : unseen m [] ≤ m.length := List.length_filter_le _ _
      exact ⟨by simp; omega, fun x hx => by simp at hx; subst hx; simp⟩⟩ ⟨⟨rfl, rfl, rfl, rfl, rfl, rfl, trivial⟩, trivial, rfl⟩ ?_
  rintro ⟨⟨n, isb, w, q, sn, s, st⟩, hst, hn, hF⟩
  simp only at hst hn hF
  refine Wsem.seq ttok mixed ?_
  refine ⟨fun h => ?_, fun h => ?_⟩
  rotate_left
  · have h : isb = false := h
    rw [if_neg (by rw [h]; simp)] at hF
    subst hF
    exact ⟨_, rfl⟩
  have h : isb = true := h
  subst h
  rw [if_pos rfl] at hF
  obtain ⟨⟨hB, hP⟩, hF⟩ := hF
  have hsl : (sups m w.1).length < 1000 ∧ (sups m w.1 = [] ∨ ∃ c, lookC m w.1 = some c ∧ sups m w.1 = c.sup) := by
    unfold sups
    cases hc : lookC m w.1 with
    | none => exact ⟨by simp, .inl rfl⟩
    | some c => exact ⟨hsup c (lookC_mem hc).1, .inr ⟨c, rfl, rfl⟩⟩
  obtain ⟨r0, hr0, hr1⟩ : ∃ r, Fp.Found (clsL m) (.string w.1) r ∧ ((r = none ∧ sups m w.1 = []) ∨ ∃ j c, r = some (j, eCl c) ∧ sups m w.1 = c.sup) := by
    rcases found_cls m w.1 with ⟨h1, h2⟩ | ⟨j, c, h1, h2⟩
    · exact ⟨_, h2, .inl ⟨rfl, by unfold sups; rw [h1]⟩⟩
    · exact ⟨_, h2, .inr ⟨j, c, rfl, by unfold sups; rw [h1]⟩⟩
  refine Wsem.seqS ?_
  refine Wsem.block ?_
  refine Wsem.seq ttok mixed ?_
  refine ⟨r0, keys_cls m, trivial, hr0, ?_⟩
  obtain ⟨n, rfl⟩ : ∃ n', n = n' + 1 := ⟨n - 1, by omega⟩
  have hF2 : ∀ V, visit m step w.2 0 (sups m w.1) q sn s = V → (match V with | ((_, _, s'), false) => s' | ((q', sn', s'), true) => bfs m step n q' sn' s') = fin := fun V hV => by
    subst hV
    rw [← hF, bfs]
    rfl
  generalize hxs : sups m w.1 = xs at hsl hr1 hF2
  rcases hr1 with ⟨rfl, h0⟩ | ⟨j, c, rfl, h0⟩
  all_goals
    refine ⟨by kernel_rfl, ?_⟩
    refine Wsem.block ?_
    refine Wsem.loop (α := {p : Nat × List Way × List ByteArray × σ × QSt // p.1 ≤ xs.length ∧ QOk p.2.1 p.2.2.2.2 ∧ (p.2.1.length + unseen m p.2.2.1 ≤ n ∧ ∀ x ∈ p.2.1, x.2.length + n ≤ m.length + 1) ∧ visit m step w.2 p.1 (xs.drop p.1) p.2.1 p.2.2.1 p.2.2.2.1 = visit m step w.2 0 xs q sn s})
      (fun p => { vs := [(0, .v (eEnv m mm is)), (2, .v (.lit (.func (.func g) #[] ca))), (6, .v (.lit (.map (some bm)))), (7, .v (pq bq)), (8, .box 0 (eWy w)), (35, .v (.sl (eSs xs))), (36, sv (xs.length : Nat)), (37, sv (p.1.1 : Nat))], hp := [(b0, HO.cells (c0 p.1.2.2.2.1)), (b1, HO.cells (c1 p.1.2.2.2.1)), (b2, HO.cells (c2 p.1.2.2.2.1))] ++ ([(bm, HO.mp (seenL p.1.2.2.1))] ++ qH bq p.1.2.1 p.1.2.2.2.2) })
      (fun p => xs.length - p.1.1) ⟨(0, q, sn, s, st), Nat.zero_le _, hst, ⟨by show q.length + unseen m sn ≤ n; omega, fun x hx => by have := hP x (List.mem_cons_of_mem _ hx); omega⟩, rfl⟩ ⟨⟨rfl, rfl, rfl, rfl, rfl, by rw [h0]; rfl, by rw [h0]; exact svc (by simp [eSs]), rfl, trivial⟩, trivial, rfl⟩ ?_
    rintro ⟨⟨i, q1, sn1, s1, st1⟩, hi, hst1, ⟨hB1, hP1⟩, hV⟩
    simp only at hi hst1 hB1 hP1 hV
    refine Wsem.seq ttok mixed ?_
    refine Wsem.seq ttok mixed ?_
    refine ⟨fun h => ?_, fun h => ?_⟩
    rotate_left
    · have hie : i = xs.length := by have h : ¬ ((i : Int) < (xs.length : Nat)) := of_decide_eq_false h; omega
      have hF3 := hF2 _ hV.symm
      rw [hie, List.drop_length] at hF3
      simp only [visit] at hF3
      refine Wsem.of ttok mixed ?_
      cases q1 with
      | nil =>
        refine .inr (.inr (.inr (.inr (.inl (.inr ⟨rfl, [4, 5], _, [], _, rfl, by decide, rfl, next_nil bq st1, ?_⟩)))))
        rintro r w2 h ⟨rfl, rfl, rfl⟩
        refine ⟨⟨(n, false, (.empty, []), [], sn1, s1, st1), hst1, by show n < 2000; omega, ?_⟩, Nat.lt_succ_self n, ⟨rfl, rfl, rfl, rfl, rfl, rfl, trivial⟩, trivial, rfl⟩
        rw [if_neg (by simp)]
        rw [← hF3]
        cases n <;> rfl
      | cons w1 q1 =>
        refine .inr (.inr (.inr (.inr (.inl (.inr ⟨rfl, [4, 5], _, [], _, rfl, by decide, rfl, next_cons bq w1 q1 st1 hst1, ?_⟩)))))
        rintro r w2 h ⟨rfl, rfl, st2, hst2, rfl⟩
        refine ⟨⟨(n, true, w1, q1, sn1, s1, st2), hst2, by show n < 2000; omega, ?_⟩, Nat.lt_succ_self n, ⟨rfl, rfl, rfl, rfl, rfl, rfl, trivial⟩, trivial, rfl⟩
        rw [if_pos rfl]
        exact ⟨⟨by simp at hB1; simp only; omega, hP1⟩, hF3⟩
    have h : i < xs.length := by have h : (i : Int) < (xs.length : Nat) := of_decide_eq_true h; omega
    have hdrop : xs.drop i = xs[i] :: xs.drop (i + 1) := List.drop_eq_getElem_cons h
    rw [hdrop] at hV
    refine Wsem.of ttok mixed ?_
    refine ⟨.lit (.string xs[i]), by omega, getS h, rfl, ?_⟩
    generalize hx : xs[i] = x at *
    rcases found_cls m x with ⟨e1, e2⟩ | ⟨j2, cc, e1, e2⟩
    · refine ⟨none, keys_cls m, trivial, e2, ?_⟩
      rw [visit, if_pos (by simp [exC, e1])] at hV
      refine ⟨⟨(i + 1, q1, sn1, s1, st1), h, hst1, ⟨hB1, hP1⟩, hV⟩, (show xs.length - (i + 1) < xs.length - i by omega), ⟨rfl, rfl, rfl, rfl, rfl, rfl, rfl, svc (wrap_succ (k := i) (by omega)), trivial⟩, trivial, rfl⟩
    · refine ⟨some (j2, eCl cc), keys_cls m, trivial, e2, ?_⟩
      by_cases hsx : x ∈ sn1
      · obtain ⟨j3, e3⟩ := seen_yes hsx
        refine ⟨3, _, _, rfl, keys_seen sn1, trivial, e3, ?_⟩
        rw [visit, if_pos (by rw [memb_yes hsx]; simp)] at hV
        refine ⟨⟨(i + 1, q1, sn1, s1, st1), h, hst1, ⟨hB1, hP1⟩, hV⟩, (show xs.length - (i + 1) < xs.length - i by omega), ⟨rfl, rfl, rfl, rfl, rfl, rfl, rfl, svc (wrap_succ (k := i) (by omega)), trivial⟩, trivial, rfl⟩
      · refine ⟨3, _, none, rfl, keys_seen sn1, trivial, seen_no hsx, ?_⟩
        rw [visit, if_neg (by rw [memb_no hsx]; simp [exC, e1])] at hV
        refine ⟨3, _, none, rfl, keys_seen sn1, trivial, seen_no hsx, ?_⟩
        rw [← seen_snoc]
        have hwl : w.2.length < 2000 := by have := hP w List.mem_cons_self; omega
        refine .inr (.inr (.inr (.inr (.inr (.inl ⟨[], [], [], _, rfl, List.nodup_nil, rfl, cloneI_ok w.2 (by omega), ?_⟩)))))
        rintro r w3 hh ⟨rfl, rfl, rfl⟩
        refine ⟨by simp [eIs]; omega, uniI _, uni1 rfl, ?_⟩
        refine .inr (.inr (.inr (.inl ⟨[0, 1, 2], [(b0, HO.cells (c0 s1)), (b1, HO.cells (c1 s1)), (b2, HO.cells (c2 s1))], [(b0, HO.cells (c0 (step s1 (x, w.2 ++ [(i : Int)])).2)), (b1, HO.cells (c1 (step s1 (x, w.2 ++ [(i : Int)])).2)), (b2, HO.cells (c2 (step s1 (x, w.2 ++ [(i : Int)])).2))], .sb (step s1 (x, w.2 ++ [(i : Int)])).1, rfl, by decide, rfl, ?_, ?_⟩)))
        · have e4 := hsee s1 (x, w.2 ++ [(i : Int)])
          have e5 : eWy (x, w.2 ++ [(i : Int)]) = .agg [.lit (.string x), .sl (eIs w.2 ++ [.lit (.int .i64 (i : Int))])] := by simp [eWy, eIs]
          rw [e5] at e4
          exact e4
        have hun := unseen_lt (m := m) (s := x) (by simp [exC, e1]) hsx
        generalize hst2 : step s1 (x, w.2 ++ [(i : Int)]) = S at hV
        obtain ⟨sb, s2⟩ := S
        refine ⟨fun hb => ?_, fun hb => ?_⟩
        · have hb : sb = false := by simpa using hb
          subst hb
          have hF3 := hF2 _ hV.symm
          simp only at hF3
          subst hF3
          exact ⟨_, rfl⟩
        · have hb : sb = true := by simpa using hb
          subst hb
          simp only at hV
          have e4 := put_ok bq q1 st1 hst1 (by omega) (x, w.2 ++ [(i : Int)])
          have e5 : eWy (x, w.2 ++ [(i : Int)]) = .agg [.lit (.string x), .sl (eIs w.2 ++ [.lit (.int .i64 (i : Int))])] := by simp [eWy, eIs]
          rw [e5] at e4
          refine .inr (.inr (.inr (.inr (.inl (.inr ⟨rfl, [4, 5], _, [], _, rfl, by decide, rfl, e4, ?_⟩)))))
          rintro r w4 hh ⟨rfl, st2, hst3, rfl⟩
          refine ⟨⟨(i + 1, q1 ++ [(x, w.2 ++ [(i : Int)])], sn1 ++ [x], s2, st2), h, hst3, ⟨by simp only [List.length_append, List.length_singleton]; omega, fun y hy => ?_⟩, hV⟩, (show xs.length - (i + 1) < xs.length - i by omega), ⟨rfl, rfl, rfl, rfl, rfl, rfl, rfl, svc (wrap_succ (k := i) (by omega)), trivial⟩, trivial, rfl⟩
          rcases List.mem_append.1 hy with hy | hy
          · exact hP1 y hy
          · simp only [List.mem_singleton] at hy
            subst hy
            have := hP w List.mem_cons_self
            simp only [List.length_append, List.length_singleton]
            omega

end Go.Proofs.YtkhnjmbgkakngaaGreatDoor

namespace Go.Proofs.YtkhnjmbgkakngaaGreatDoor
open Go Fp
set_option maxRecDepth 10000
set_option maxHeartbeats 4000000
set_option linter.unusedVariables false
set_option linter.unusedSimpArgs false

abbrev ptrV (b : Nat) : Value := .pointer (some ⟨b, 0, none⟩)
def stepA (one : ByteArray) (s : Bool) (w : Way) : Bool × Bool := (!(s || decide (w.1 = one)), s || decide (w.1 = one))
def stepP (to : ByteArray) (s : Bool × List Int) (w : Way) : Bool × (Bool × List Int) := if w.1 = to then (false, (true, w.2)) else (!s.1, s)

theorem seeA_ok (one : ByteArray) (b0 b1 : Nat) (s : Bool) (w : Way) : CallsG Tryz.prog (.func (.func n_classes_Env_above_1) #[] #[ptrV b0, ptrV b1]) [(b0, HO.cells [.sb s]), (b1, HO.cells [.lit (.string one)])] [eWy w] [] fun r o h => r = .sb (stepA one s w).1 ∧ o = 0 ∧ h = [(b0, HO.cells [.sb (stepA one s w).2]), (b1, HO.cells [.lit (.string one)])] := by
  refine CallsG.wkH (post := fun r o h => r = .sb (stepA one s w).1 ∧ o = 0 ∧ (h = [(b0, HO.cells [.sb (stepA one s w).2]), (b1, HO.cells [.lit (.string one)])] ∨ h = [(b0, HO.cells [.lit (.bool (stepA one s w).2)]), (b1, HO.cells [.lit (.string one)])])) ?_ (fun r o h hp => by
    obtain ⟨h1, h2, rfl | rfl⟩ := hp <;> exact ⟨h1, h2, rfl⟩)
  refine CallsG.less0 (post := fun r o h => r = .sb (stepA one s w).1 ∧ (h = [(b0, HO.cells [.sb (stepA one s w).2]), (b1, HO.cells [.lit (.string one)])] ∨ h = [(b0, HO.cells [.lit (.bool (stepA one s w).2)]), (b1, HO.cells [.lit (.string one)])])) ?_ (fun r o h hp => ⟨h, [], by simp, hp.1, rfl, hp.2⟩)
  refine callsG_of_wcx (first := []) (cap := [ptrV b0, ptrV b1]) ttok mixed Tryz.func83 rfl (by rfl) rfl (Nat.le_of_ble_eq_true rfl) (by kernel_rfl) ?_
  cases s with
  | true =>
    refine ⟨0, _, _, rfl, rfl, ?_⟩
    refine ⟨fun hbs => ?_, fun hbs => ?_⟩ <;> first | (exfalso; revert hbs; (simp); done) | skip
    refine ⟨rfl, 0, _, rfl, Nat.le_of_ble_eq_true rfl, ?_⟩
    refine ⟨0, _, _, rfl, rfl, ?_⟩
    exact ⟨rfl, .inr rfl⟩
  | false =>
    refine ⟨0, _, _, rfl, rfl, ?_⟩
    refine ⟨fun hbs => ?_, fun hbs => ?_⟩ <;> first | (exfalso; revert hbs; (simp); done) | skip
    refine ⟨1, _, _, rfl, rfl, ?_⟩
    refine ⟨rfl, 0, _, rfl, Nat.le_of_ble_eq_true rfl, ?_⟩
    refine ⟨0, _, _, rfl, rfl, ?_⟩
    have e : (false || decide (w.1 = one)) = decide (w.1 = one) := Bool.false_or _
    refine ⟨?_, .inl ?_⟩
    · show AV.sb (!decide (w.1 = one)) = _
      simp only [stepA, e]
    · simp only [stepA, e]
      rfl

theorem seeP_ok (to : ByteArray) (b0 b1 b2 : Nat) (s : Bool × List Int) (w : Way) : CallsG Tryz.prog (.func (.func n_classes_Env_Path_1) #[] #[ptrV b0, ptrV b1, ptrV b2]) [(b0, HO.cells [.lit (.string to)]), (b1, HO.cells [.sl (eIs s.2)]), (b2, HO.cells [.sb s.1])] [eWy w] [] fun r o h => r = .sb (stepP to s w).1 ∧ o = 0 ∧ h = [(b0, HO.cells [.lit (.string to)]), (b1, HO.cells [.sl (eIs (stepP to s w).2.2)]), (b2, HO.cells [.sb (stepP to s w).2.1])] := by
  refine CallsG.wkH (post := fun r o h => r = .sb (stepP to s w).1 ∧ o = 0 ∧ (h = [(b0, HO.cells [.lit (.string to)]), (b1, HO.cells [.sl (eIs (stepP to s w).2.2)]), (b2, HO.cells [.sb (stepP to s w).2.1])] ∨ h = [(b0, HO.cells [.lit (.string to)]), (b1, HO.cells [.sl (eIs (stepP to s w).2.2)]), (b2, HO.cells [.lit (.bool (stepP to s w).2.1)])])) ?_ (fun r o h hp => by
    obtain ⟨h1, h2, rfl | rfl⟩ := hp <;> exact ⟨h1, h2, rfl⟩)
  refine CallsG.less0 (post := fun r o h => r = .sb (stepP to s w).1 ∧ (h = [(b0, HO.cells [.lit (.string to)]), (b1, HO.cells [.sl (eIs (stepP to s w).2.2)]), (b2, HO.cells [.sb (stepP to s w).2.1])] ∨ h = [(b0, HO.cells [.lit (.string to)]), (b1, HO.cells [.sl (eIs (stepP to s w).2.2)]), (b2, HO.cells [.lit (.bool (stepP to s w).2.1)])])) ?_ (fun r o h hp => ⟨h, [], by simp, hp.1, rfl, hp.2⟩)
  refine callsG_of_wcx (first := []) (cap := [ptrV b0, ptrV b1, ptrV b2]) ttok mixed Tryz.func67 rfl (by rfl) rfl (Nat.le_of_ble_eq_true rfl) (by kernel_rfl) ?_
  refine ⟨0, _, _, rfl, rfl, ?_⟩
  refine ⟨fun h => ?_, fun h => ?_⟩
  · have h : w.1 = to := of_decide_eq_true h
    refine ⟨rfl, 1, _, rfl, Nat.le_of_ble_eq_true rfl, ?_⟩
    refine ⟨rfl, 2, _, rfl, Nat.le_of_ble_eq_true rfl, ?_⟩
    refine ⟨2, _, _, rfl, rfl, ?_⟩
    have e : stepP to s w = (false, (true, w.2)) := if_pos h
    rw [e]
    exact ⟨rfl, .inr rfl⟩
  · have h : w.1 ≠ to := of_decide_eq_false h
    refine ⟨2, _, _, rfl, rfl, ?_⟩
    have e : stepP to s w = (!s.1, s) := if_neg h
    rw [e]
    exact ⟨rfl, .inl rfl⟩

theorem above_ok (m : List Cl) (mm : List (AV × AV)) (is : List In) (hm : m.length < 1000) (hsup : ∀ c ∈ m, c.sup.length < 1000) (one other : ByteArray) : ACall Tryz.prog n_classes_Env_above [eEnv m mm is, .lit (.string one), .lit (.string other)] (.sb (bfs m (stepA one) (m.length + 1) [(other, [])] [] false)) := by
  refine acall_of_wsem ttok mixed Tryz.func59 rfl (by rfl) (Nat.le_of_ble_eq_true rfl) (by kernel_rfl) ?_
  refine Wsem.seq ttok mixed ?_
  refine Wsem.seq ttok mixed ?_
  refine Wsem.cut { vs := [(0, .v (eEnv m mm is)), (2, .v (.lit (.string other))), (4, .box 0 (.lit (.string one))), (7, .box 0 (.sb false))] } ⟨⟨rfl, rfl, rfl, rfl, trivial⟩, trivial, rfl⟩ ?_
  refine Wsem.of ttok mixed ?_
  refine .inr ⟨rfl, fun b0 => ⟨rfl, fun b1 => ?_⟩⟩
  refine .inr (.inr (.inr (.inr (.inr (.inl ⟨[0, 1], _, [], _, rfl, by decide, rfl, climb2_ok m mm is (stepA one) b0 b1 (fun s => [.sb s]) (fun s => [.lit (.string one)]) n_classes_Env_above_1 #[ptrV b0, ptrV b1] hm hsup (seeA_ok one b0 b1) other false, ?_⟩)))))
  rintro r w h ⟨rfl, rfl⟩
  refine ⟨0, _, _, rfl, rfl, ?_⟩
  exact rfl

def pathB (m : List Cl) (frm to : ByteArray) : Bool × List Int := if frm = to ∨ exC m frm = false then (exC m frm, []) else bfs m (stepP to) (m.length + 1) [(frm, [])] [] (false, [])
theorem path_ok (m : List Cl) (mm : List (AV × AV)) (is : List In) (hm : m.length < 1000) (hsup : ∀ c ∈ m, c.sup.length < 1000) (frm to : ByteArray) : ACall Tryz.prog n_classes_Env_Path [eEnv m mm is, .lit (.string frm), .lit (.string to)] (.tup [.sl (eIs (pathB m frm to).2), .sb (pathB m frm to).1]) := by
  have tail : exC m frm = true → frm ≠ to → Wsem Tryz.prog (sndC (sndC (sndC (bodyC Tryz.f34)))) (mkC { vs := [(0, .v (eEnv m mm is)), (1, .v (.lit (.string frm))), (5, .box 0 (.lit (.string to)))] })
      (fun c => RetP tt Tryz.f34.results.toList (.tup [.sl (eIs (pathB m frm to).2), .sb (pathB m frm to).1]) (den c)) (fun _ _ => False) (fun c => RetP tt Tryz.f34.results.toList (.tup [.sl (eIs (pathB m frm to).2), .sb (pathB m frm to).1]) (den c)) := fun h1 h2 => by
    refine Wsem.seq ttok mixed ?_
    refine Wsem.seq ttok mixed ?_
    refine Wsem.cut { vs := [(0, .v (eEnv m mm is)), (1, .v (.lit (.string frm))), (5, .box 0 (.lit (.string to))), (10, .box 0 (.sl [])), (11, .box 0 (.sb false))] } ⟨⟨rfl, rfl, rfl, rfl, rfl, trivial⟩, trivial, rfl⟩ ?_
    refine Wsem.seq ttok mixed ?_
    refine .inl ?_
    refine Wsem.of ttok mixed ?_
    refine .inr ⟨rfl, fun b0 => ⟨rfl, fun b1 => ⟨rfl, fun b2 => ?_⟩⟩⟩
    refine .inr (.inr ⟨[0, 1, 2], _, _, rfl, by decide, climb3_ok m mm is (stepP to) b0 b1 b2 (fun s => [.lit (.string to)]) (fun s => [.sl (eIs s.2)]) (fun s => [.sb s.1]) n_classes_Env_Path_1 #[ptrV b0, ptrV b1, ptrV b2] hm hsup (seeP_ok to b0 b1 b2) frm (false, []), ?_⟩)
    rintro r w h ⟨rfl, rfl⟩
    refine ⟨1, _, _, rfl, rfl, ?_⟩
    refine ⟨2, _, _, rfl, rfl, ?_⟩
    refine ⟨by kernel_rfl, ?_⟩
    show AV.tup _ = AV.tup _
    unfold pathB
    rw [if_neg (by simp [h1, h2])]
    rfl
  refine acall_of_wsem ttok mixed Tryz.func34 rfl (by rfl) (Nat.le_of_ble_eq_true rfl) (by kernel_rfl) ?_
  refine Wsem.seq ttok mixed ?_
  refine Wsem.seq ttok mixed ?_
  rcases found_cls m frm with ⟨e1, e2⟩ | ⟨j, c, e1, e2⟩
  · refine ⟨none, keys_cls m, trivial, e2, ?_⟩
    have hB : pathB m frm to = (false, []) := by unfold pathB; rw [if_pos (by simp [exC, e1])]; simp [exC, e1]
    refine Wsem.seq ttok mixed ?_
    refine ⟨fun h => ?_, fun h => ?_⟩
    · rw [hB]; exact rfl
    · rw [hB]; exact rfl
  · refine ⟨some (j, eCl c), keys_cls m, trivial, e2, ?_⟩
    have hex : exC m frm = true := by simp [exC, e1]
    refine Wsem.seq ttok mixed ?_
    refine ⟨fun h => ?_, fun h => ?_⟩
    · have h : frm ≠ to := of_decide_eq_false h
      refine Wsem.cut _ ?_ (tail hex h)
      exact ⟨⟨rfl, rfl, rfl, trivial⟩, trivial, rfl⟩
    · have h : frm = to := of_decide_eq_true h
      have hB : pathB m frm to = (true, []) := by unfold pathB; rw [if_pos (.inl h), hex]
      rw [hB]; exact rfl
end Go.Proofs.YtkhnjmbgkakngaaGreatDoor

namespace Go.Proofs.YtkhnjmbgkakngaaGreatDoor
open Go Fp
set_option maxRecDepth 10000
set_option maxHeartbeats 4000000
set_option linter.unusedVariables false
set_option linter.unusedSimpArgs false

def instP (cls con : ByteArray) (x : In) : Bool := decide (x.cls = cls) && decide (x.con = con)
def ixP {α : Type} (p : α → Bool) (l : List α) : Int := match l.findIdx? p with
  | some i => (i : Nat)
  | none => -1
abbrev bxS (s : ByteArray) : AV := .ptr [.lit (.string s)]
theorem instC_ok (x : In) (cls con : ByteArray) : ACall Tryz.prog 85 [eIn x, bxS cls, bxS con] (.sb (instP cls con x)) := by
  refine acall_of_wcx ttok mixed Tryz.func85 rfl (by rfl) (Nat.le_of_ble_eq_true rfl) (by kernel_rfl) ?_
  unfold instP
  refine ⟨fun h => ?_, fun h => ?_⟩
  · rw [h]; exact rfl
  · have h : decide (x.cls = cls) = false := by simpa using h
    rw [h]; exact rfl
theorem getN {x : List In} {k : Nat} (h : k < x.length) : (eIns x)[k]? = some (eIn x[k]) := by simp [eIns, h]
theorem ixInst_ok (l : List In) (hl : l.length < 100000) (cls con : ByteArray) : ACall Tryz.prog 84 [.sl (eIns l), .fn (.func 85) [] [bxS cls, bxS con]] (.lit (.int .i64 (ixP (instP cls con) l))) := by
  refine acall_of_wcx ttok mixed Tryz.func84 rfl (by rfl) (Nat.le_of_ble_eq_true rfl) (by kernel_rfl) ?_
  refine ⟨{k : Nat // k ≤ l.length ∧ ∀ j (hj : j < l.length), j < k → instP cls con l[j] = false}, fun k => { vs := [(0, .v (.sl (eIns l))), (1, .v (.fn (.func 85) [] [bxS cls, bxS con])), (7, sv (l.length : Nat)), (8, sv (k.1 : Nat))] },
    fun k => l.length - k.1, ⟨0, Nat.zero_le _, fun j hj h => by omega⟩, ⟨⟨rfl, rfl, svc (by simp [eIns]), rfl, trivial⟩, trivial, rfl⟩, ?_⟩
  rintro ⟨k, hk, hinv⟩
  refine ⟨fun h => ?_, fun h => ?_⟩
  · have h : k < l.length := by have h : (k : Int) < (l.length : Nat) := of_decide_eq_true h; omega
    refine ⟨eIn l[k], by omega, getN h, rfl, ?_⟩
    refine .inl ⟨_, instC_ok l[k] cls con, ?_⟩
    refine ⟨fun hp => ?_, fun hp => ?_⟩
    · have e : ixP (instP cls con) l = (k : Nat) := by
        unfold ixP
        rw [List.findIdx?_eq_some_iff_getElem.2 ⟨h, hp, fun j hj => by simp [hinv j (by omega) hj]⟩]
      rw [e]; exact rfl
    · refine ⟨⟨k + 1, h, fun j hj hjk => ?_⟩, (show l.length - (k + 1) < l.length - k by omega), ⟨rfl, rfl, rfl, svc (wrap_succ (k := k) (by omega)), trivial⟩, trivial, rfl⟩
      by_cases hjk2 : j = k
      · subst hjk2; exact hp
      · exact hinv j hj (by omega)
  · have h : k = l.length := by have h : ¬ (k : Int) < (l.length : Nat) := of_decide_eq_false h; omega
    have e : ixP (instP cls con) l = -1 := by
      unfold ixP
      rw [List.findIdx?_eq_none_iff.2 fun x hx => by
        obtain ⟨j, hj, rfl⟩ := List.mem_iff_getElem.1 hx
        exact hinv j hj (by omega)]
    rw [e]; exact rfl

def instI (l : List In) (cls con : ByteArray) : Option Nat := l.findIdx? (instP cls con)
theorem inst_ok (m : List Cl) (mm : List (AV × AV)) (l : List In) (hl : l.length < 100000) (cls con : ByteArray) : ACall Tryz.prog n_classes_Env_Inst [eEnv m mm l, .lit (.string cls), .lit (.string con)] (.tup [.lit (.int .i64 (((instI l cls con).getD 0 : Nat) : Int)), .sb (instI l cls con).isSome]) := by
  refine acall_of_wcx ttok mixed Tryz.func60 rfl (by rfl) (Nat.le_of_ble_eq_true rfl) (by kernel_rfl) ?_
  refine .inl ?_
  refine .inl ⟨_, ixInst_ok l hl cls con, ?_⟩
  unfold instI ixP
  cases h : l.findIdx? (instP cls con) with
  | none => exact rfl
  | some i =>
    have e : (if ((i : Nat) : Int) < 0 then (0 : Int) else (i : Nat)) = (i : Nat) := if_neg (by omega)
    have e2 : decide ((0 : Int) ≤ (i : Nat)) = true := decide_eq_true (by omega)
    show AV.tup [.lit (.int .i64 (if ((i : Nat) : Int) < 0 then (0 : Int) else (i : Nat))), .sb (decide ((0 : Int) ≤ (i : Nat)))] = _
    rw [e, e2]
    rfl
theorem at_ok' (m : List Cl) (mm : List (AV × AV)) (l : List In) (k : Nat) (h : k < l.length) (hl : l.length < 100000) : ACall Tryz.prog n_classes_Env_At [eEnv m mm l, .lit (.int .i64 (k : Nat))] (eIn l[k]) := by
  refine acall_of_wcx ttok mixed Tryz.func70 rfl (by rfl) (Nat.le_of_ble_eq_true rfl) (by kernel_rfl) ?_
  refine ⟨fun hbs => ?_, fun hbs => ?_⟩ <;> first | (exfalso; revert hbs; (intro h; have h := of_decide_eq_true h; omega); done) | skip
  refine ⟨fun h2 => ?_, fun h2 => ?_⟩
  · exfalso
    have h2 : ((eIns l).length : Int) ≤ (k : Nat) := of_decide_eq_true h2
    simp [eIns] at h2; omega
  refine ⟨eIn l[k], by omega, getN h, rfl, ?_⟩
  exact rfl
end Go.Proofs.YtkhnjmbgkakngaaGreatDoor
