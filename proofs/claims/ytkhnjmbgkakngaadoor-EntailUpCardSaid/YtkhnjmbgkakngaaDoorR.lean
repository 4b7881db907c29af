/- The law EntailUp. -/
import Derived.Test.YtkhnjmbgkakngaaDoorQ
set_option linter.unusedSimpArgs false
set_option linter.unusedVariables false
namespace Go.Proofs.YtkhnjmbgkakngaaDoor
open Go Fp
set_option maxRecDepth 10000
set_option maxHeartbeats 8000000
set_option linter.unusedVariables false
set_option linter.unusedSimpArgs false

/-- What holds of one that is given. -/
theorem up_by {m : List Cl} {is : List In} {s c : ByteArray} {t : Tp} (n : Nat) : byE m is [⟨s, t⟩] (n + 1) ⟨c, t⟩ = if (pathB m s c).1 = true then some (wrapV (.mk 1 0 []) (pathB m s c).2) else match instE is ⟨c, t⟩ with
    | none => none
    | some (k, l) => (kidsO (byE m is [⟨s, t⟩] n) l).map fun ks => .mk 3 (k : Nat) ks := by
  rw [byE]
  simp only [byG, decide_true, Bool.and_true]
  by_cases h : (pathB m s c).1 = true
  · rw [if_pos h, if_pos h]; rfl
  · rw [if_neg h, if_neg h]; rfl
theorem up_con {is : List In} {x : PR} (h : (spHd x.ty).form ≠ 3) : instE is x = none := by
  unfold instE
  rw [if_neg h]
theorem path_memb {m : List Cl} {s c : ByteArray} : (pathB m s c).1 = memb c (abv m (m.length + 1) s []) := by
  rw [Bool.eq_iff_iff, pathB_iff, memb_iff, abv_iff]
theorem tform (t : Tp) : ∃ r, eTy t = .agg (.lit (.int .i64 t.form) :: r) := by cases t <;> exact ⟨_, rfl⟩
theorem entailUp_ok {l0 l2 : List Int} {n : Int} (hl0 : l0.length < 9223372036854775808) (hr0 : ∀ x ∈ l0, InR x) (hn : InR n) (hl2 : l2.length < 9223372036854775808) (hr2 : ∀ x ∈ l2, InR x) :
    ACall Tryd.prog n_fuguelaw12_EntailUp [.sl (eIs l0), .lit (.int .i64 n), .sl (eIs l2)] (.sb true) := by
  obtain ⟨cs, is, W, hW⟩ := world_good hl0 hr0
  obtain ⟨b, e, q, hN, he⟩ := newW_ok W
  obtain ⟨r5, hr5, hA⟩ := around_ok (m := 5) hn (by decide) (by decide)
  have hr5 : r5 < 5 := by omega
  obtain ⟨t, ht, hT⟩ := type_ok hl2 hr2
  have htz : nA t ∧ t.sz < 1000000 := ⟨ht.na, by have := ht.sz; omega⟩
  have hth : hgt t ≤ 8 := ht.hb
  have hSp := spine_ok t htz.2
  have hn5 := nm5_get hr5
  generalize nms5.getD r5 .empty = s at hn5
  refine acall_of_wsem ttok mixed Tryd.func6 rfl (by rfl) (Nat.le_of_ble_eq_true rfl) (by kernel_rfl) ?_
  refine Wsem.seq ttok mixed ?_
  refine Wsem.seq ttok mixed ?_
  refine .inl ⟨_, hW, ?_⟩
  refine .inr (.inr (.inr (.inr (.inr (.inl ⟨[], [], [], _, rfl, by decide, rfl, hN, ?_⟩)))))
  rintro r o h ⟨rfl, rfl, rfl⟩
  cases b with
  | false =>
    simp only [Bool.false_eq_true, if_false] at he
    subst he
    refine Wsem.cut { vs := [(7, .v (.lit (.pointer none)))] } ⟨⟨rfl, trivial⟩, trivial, rfl⟩ ?_
    refine Wsem.of ttok mixed ?_
    refine .inl ⟨_, lives_ok, ?_⟩
    exact rfl
  | true =>
    simp only [if_true] at he
    subst he
    have hfew := W.few
    have hins := W.ins
    have hrl : cs.reverse.length ≤ 5 := by rw [List.length_reverse]; omega
    have hrs : ∀ c ∈ cs.reverse, c.sup.length ≤ 2 := fun c hc => W.sup c (List.mem_reverse.1 hc)
    have hrm : ∀ c ∈ cs.reverse, c.mth.length < 1000 := fun c hc => by have := W.mth c (List.mem_reverse.1 hc); omega
    have hy : ∀ y ∈ is, WIn y := fun y hy => (W.sml y hy).win
    generalize eM (mthAll cs cs.length) = mm
    generalize cs.reverse = m at *
    have hrs' : ∀ c ∈ m, c.sup.length < 1000 := fun c hc => by have := hrs c hc; omega
    have hgp : ∀ q ∈ [(⟨s, t⟩ : PR)], nA q.ty ∧ q.ty.sz < 1000000 := fun q hq => by simp at hq; subst hq; exact htz
    have hBy := fun (c : ByteArray) => by_ok m mm is [⟨s, t⟩] (by omega) hrs' (by omega) hy (by simp) hgp (t.sz + 1) ⟨c, t⟩ htz.1 htz.2 (show t.sz < t.sz + 1 by omega)
    have hCk := fun (c : ByteArray) (N : Nat) (v : Ev) (hv : Dp N v) => check_ok m mm is hrs' hrm (by omega) hy [⟨s, t⟩] hgp N ⟨c, t⟩ v hv htz.1 htz.2
    have hC1 := fun (c : ByteArray) v => byE_chk (m := m) (is := is) (g := [⟨s, t⟩]) (t.sz + 1) ⟨c, t⟩ v
    have hEv := fun (c : ByteArray) v => byE_ok (cs := m) hrl hrs hins W.sml [⟨s, t⟩] (by simp) 8 (t.sz + 1) ⟨c, t⟩ v hth (by decide)
    have hPt := fun (c : ByteArray) => path_ok m mm is (by omega) hrs' s c
    have hPl := fun (c : ByteArray) => pathB_len m s c
    have hUp := aboveL_ok m mm is (by omega) hrs' s
    have hUl : (abv m (m.length + 1) s []).length ≤ 5 := by have := upE_len m s; unfold upE at this; omega
    have hHs := fun (c : ByteArray) => has_ok (l := abv m (m.length + 1) s []) (s := c) (by omega)
    have hpm := fun (c : ByteArray) => (path_memb (m := m) (s := s) (c := c)).symm
    have hub := fun (c : ByteArray) => up_by (m := m) (is := is) (s := s) (c := c) (t := t) t.sz
    have huc := fun (c : ByteArray) => up_con (is := is) (x := ⟨c, t⟩)
    simp only [hpm] at hHs
    clear hpm
    generalize abv m (m.length + 1) s [] = up at *
    refine Wsem.cut { vs := [(1, .v (.lit (.int .i64 n))), (2, .v (.sl (eIs l2))), (7, .v (eEnv m mm is))] } ⟨⟨rfl, rfl, rfl, trivial⟩, trivial, rfl⟩ ?_
    refine Wsem.of ttok mixed ?_
    refine .inl ⟨_, names_ok, ?_⟩
    refine .inl ⟨_, hA, ?_⟩
    refine ⟨_, by omega, hn5, rfl, ?_⟩
    refine .inl ⟨_, hT, ?_⟩
    refine .inl ⟨_, hUp, ?_⟩
    refine .inl ⟨_, hSp, ?_⟩
    refine ⟨{i : Nat // i ≤ 5}, fun i => { vs := [(7, .v (eEnv m mm is)), (9, .v (.sl (eSs nms5))), (11, .v (.lit (.string s))), (12, .box 0 (eTy t)), (13, .v (.sl (ePrs [⟨s, t⟩]))), (14, .v (.sl (eSs up))), (15, .box 0 (eTy (spHd t))), (17, sv (i.1 : Nat))] },
      fun i => 5 - i.1, ⟨0, Nat.zero_le _⟩, ⟨⟨rfl, rfl, rfl, rfl, rfl, rfl, rfl, rfl, trivial⟩, trivial, rfl⟩, ?_⟩
    rintro ⟨i, hi⟩
    refine ⟨fun h => ?_, fun h => ?_⟩
    · have h : i < 5 := by have h : (i : Int) < 5 := of_decide_eq_true h; omega
      have hgc := nm5_get h
      generalize nms5.getD i .empty = c at hgc
      have hn : 5 - (i + 1) < 5 - i := by omega
      have hBy := hBy c
      have hCk := hCk c
      have hC1 := hC1 c
      have hEv := hEv c
      have hPt := hPt c
      have hPl := hPl c
      have hHs := hHs c
      have hub := hub c
      have huc := huc c
      revert hBy hC1 hEv hPt hPl hHs hub
      generalize byE m is [⟨s, t⟩] (t.sz + 1) ⟨c, t⟩ = o
      generalize pathB m s c = pb
      obtain ⟨b, way⟩ := pb
      intro hBy hC1 hEv hPt hPl hHs hub
      simp only at hPl hHs hub
      rw [evR_get] at hBy
      refine ⟨_, by omega, hgc, rfl, ?_⟩
      refine ⟨by kernel_rfl, ?_⟩
      refine .inl ⟨_, hBy, ?_⟩
      refine ⟨_, by omega, hgc, rfl, ?_⟩
      refine .inl ⟨_, hPt, ?_⟩
      refine ⟨_, by omega, hgc, rfl, ?_⟩
      refine .inl ⟨_, hHs, ?_⟩
      refine ⟨fun hbs => ?_, fun hbs => ?_⟩ <;> first | (exfalso; revert hbs; (simp); done) | skip
      cases b with
      | false =>
        refine ⟨fun hbs => ?_, fun hbs => ?_⟩ <;> first | (exfalso; revert hbs; (simp); done) | skip
        have hof : o.isSome = true → (spHd t).form = 3 := fun ho => by
          rw [if_neg (by simp)] at hub
          by_cases hf : (spHd t).form = 3
          · exact hf
          · rw [huc hf] at hub
            simp only at hub
            rw [hub] at ho
            cases ho
        cases o with
        | none =>
          refine ⟨fun hbs => ?_, fun hbs => ?_⟩ <;> first | (exfalso; revert hbs; (simp [errO]); done) | skip
          exact ⟨⟨i + 1, h⟩, hn, ⟨rfl, rfl, rfl, rfl, rfl, rfl, rfl, svc (wrap_succ (k := i) (by omega)), trivial⟩, trivial, rfl⟩
        | some v =>
          have hf := hof rfl
          refine ⟨fun hbs => ?_, fun hbs => ?_⟩ <;> first | (exfalso; revert hbs; (simp [errO]); done) | skip
          refine ⟨fun hbs => ?_, fun hbs => ?_⟩ <;> first | (exfalso; revert hbs; (simp [hf]); done) | skip
          exact ⟨⟨i + 1, h⟩, hn, ⟨rfl, rfl, rfl, rfl, rfl, rfl, rfl, svc (wrap_succ (k := i) (by omega)), trivial⟩, trivial, rfl⟩
      | true =>
        rw [if_pos rfl] at hub
        subst hub
        have hEv := (hEv _ rfl).1
        have hC1 := hC1 _ rfl
        obtain ⟨N, hN⟩ := ex_dp (wrapV (.mk 1 0 []) way)
        have hCk := hCk N _ hN
        rw [hC1 N hN] at hCk
        have hS := rsame_ok hEv
        refine ⟨fun hbs => ?_, fun hbs => ?_⟩ <;> first | (exfalso; revert hbs; (simp); done) | skip
        refine ⟨{j : Nat // j ≤ way.length}, fun j => { vs := [(7, .v (eEnv m mm is)), (9, .v (.sl (eSs nms5))), (11, .v (.lit (.string s))), (12, .box 0 (eTy t)), (13, .v (.sl (ePrs [⟨s, t⟩]))), (14, .v (.sl (eSs up))), (15, .box 0 (eTy (spHd t))), (17, sv (i : Nat)), (18, .box 0 (ePr ⟨c, t⟩)), (19, .box 0 (eV (wrapV (.mk 1 0 []) way))), (20, .v (.lit (.int .i64 0))), (21, .v (.sl (eIs way))), (23, .box 0 (eV (wrapV (.mk 1 0 []) (way.take j.1)))), (24, sv (j.1 : Nat))] },
          fun j => way.length - j.1, ⟨0, Nat.zero_le _⟩, ⟨⟨rfl, rfl, rfl, rfl, rfl, rfl, rfl, rfl, rfl, rfl, rfl, rfl, rfl, rfl, trivial⟩, trivial, rfl⟩, ?_⟩
        rintro ⟨j, hj⟩
        refine ⟨fun h2 => ?_, fun h2 => ?_⟩
        · have h2 : j < way.length := by have h : (j : Int) < ((eIs way).length : Nat) := of_decide_eq_true h2; simp [eIs] at h; omega
          refine ⟨_, by omega, getIs h2, rfl, ?_⟩
          refine ⟨by kernel_rfl, ?_⟩
          refine ⟨⟨j + 1, h2⟩, (show way.length - (j + 1) < way.length - j by omega), ⟨rfl, rfl, rfl, rfl, rfl, rfl, rfl, rfl, rfl, rfl, rfl, rfl, ?_, svc (wrap_succ (k := j) (by omega)), trivial⟩, trivial, rfl⟩
          show SV.box 0 (.agg [_, .lit (.int .i64 way[j]), .sl [eV (wrapV _ (way.take j))]]) = _
          simp only [wrapV_snoc _ _ h2]
          rw [eV_eq (wrapV _ (way.take j))]
          rfl
        · have h2 : j = way.length := by have h : ¬ (j : Int) < ((eIs way).length : Nat) := of_decide_eq_false h2; simp [eIs] at h; omega
          subst h2
          rw [List.take_length]
          refine ⟨fun hbs => ?_, fun hbs => ?_⟩ <;> first | (exfalso; revert hbs; (simp); done) | skip
          refine .inl ⟨_, hS, ?_⟩
          refine ⟨fun hbs => ?_, fun hbs => ?_⟩ <;> first | (exfalso; revert hbs; (simp); done) | skip
          refine .inl ⟨_, hCk, ?_⟩
          refine ⟨fun hbs => ?_, fun hbs => ?_⟩ <;> first | (exfalso; revert hbs; (simp); done) | skip
          exact ⟨⟨i + 1, h⟩, hn, ⟨rfl, rfl, rfl, rfl, rfl, rfl, rfl, svc (wrap_succ (k := i) (by omega)), trivial⟩, trivial, rfl⟩
    · refine .inl ⟨_, lives_ok, ?_⟩
      exact rfl
end Go.Proofs.YtkhnjmbgkakngaaDoor
