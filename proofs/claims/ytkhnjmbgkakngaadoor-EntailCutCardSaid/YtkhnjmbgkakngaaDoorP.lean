/- Do each instance's classes above hold of its type? By the document's law. -/
import Derived.Test.YtkhnjmbgkakngaaDoorO
import Derived.Test.YtkhnjmbgkakngaaDoorFpL
set_option linter.unusedSimpArgs false
set_option linter.unusedVariables false
namespace Go.Proofs.YtkhnjmbgkakngaaDoor
open Go Fp
set_option maxRecDepth 10000
set_option maxHeartbeats 8000000
set_option linter.unusedVariables false
set_option linter.unusedSimpArgs false

noncomputable def oneW (m : List Cl) (is : List In) (y : In) (c : ByteArray) : Bool := (byE m is y.prs ((hdTy y).sz + 1) ⟨c, hdTy y⟩).isSome
noncomputable def wholeE (m : List Cl) (is : List In) : Bool := is.all fun y => ((lookC m y.cls).getD zCl).sup.all fun c => oneW m is y c
theorem wholeE_whl {m : List Cl} {is : List In} (h : wholeE m is = true) : Whl m is := fun y hy c hc => by
  have h1 := List.all_eq_true.1 h y hy
  rw [sups_get] at hc
  have h2 := List.all_eq_true.1 h1 c hc
  obtain ⟨v, hv⟩ := Option.isSome_iff_exists.1 h2
  exact byE_dv _ _ v hv
def tyJ (y : In) (j : Nat) : Tp := ((y.vars.take j).map .var).foldl .app (.con y.con)
theorem tyJ_succ (y : In) {j : Nat} (h : j < y.vars.length) : tyJ y (j + 1) = .app (tyJ y j) (.var y.vars[j]) := by
  unfold tyJ
  rw [List.take_succ_eq_append_getElem h, List.map_append, List.foldl_append]; rfl
theorem tyJ_all (y : In) : tyJ y y.vars.length = hdTy y := by unfold tyJ hdTy; rw [List.take_length]
theorem tyJ_nA (y : In) : ∀ j, j ≤ y.vars.length → nA (tyJ y j) ∧ (tyJ y j).sz ≤ 1 + 3 * j
  | 0, _ => by simp [tyJ, nA, Tp.sz]
  | j + 1, h => by
    rw [tyJ_succ y h]
    obtain ⟨h1, h2⟩ := tyJ_nA y j (by omega)
    refine ⟨⟨h1, trivial⟩, ?_⟩
    simp only [Tp.sz]; omega
theorem con_mk' (s : ByteArray) : ACall Tryd.prog n_types_Con [.lit (.string s)] (eTy (.con s)) := con_mk s
section
variable (m : List Cl) (mm : List (AV × AV)) (is : List In) (hm : m.length < 1000) (hs : ∀ c ∈ m, c.sup.length < 1000) (hmt : ∀ c ∈ m, c.mth.length < 1000) (hi : is.length < 20000) (hy : ∀ y ∈ is, WIn y)
include hm hs hmt hi hy
theorem whole_ok : ACall Tryd.prog n_fuguelaw12_whole [eEnv m mm is] (.sb (wholeE m is)) := by
  generalize hR : wholeE m is = R
  unfold wholeE at hR
  refine acall_of_wcx ttok mixed Tryd.func9 rfl (by rfl) (Nat.le_of_ble_eq_true rfl) (by kernel_rfl) ?_
  refine ⟨{i : Nat // i ≤ is.length ∧ R = (is.drop i).all fun y => ((lookC m y.cls).getD zCl).sup.all fun c => oneW m is y c}, fun i => { vs := [(0, .v (eEnv m mm is)), (3, sv (i.1 : Nat))] },
    fun i => is.length - i.1, ⟨0, Nat.zero_le _, hR.symm⟩, ⟨⟨rfl, rfl, trivial⟩, trivial, rfl⟩, ?_⟩
  rintro ⟨i, hil, hinv⟩
  refine .inl ⟨_, len_ok m mm is, ?_⟩
  refine ⟨fun h => ?_, fun h => ?_⟩
  · have h : i < is.length := by have h : (i : Int) < (is.length : Nat) := of_decide_eq_true h; omega
    rw [List.drop_eq_getElem_cons h, List.all_cons] at hinv
    have hyi := hy is[i] (List.getElem_mem h)
    have hA := envAt_ok m mm is i h (by omega)
    revert hA hyi hinv
    generalize is[i] = y
    intro hinv hyi hA
    refine .inl ⟨_, hA, ?_⟩
    refine .inl ⟨_, con_mk' y.con, ?_⟩
    have hvl := hyi.ok.vars
    refine ⟨{j : Nat // j ≤ y.vars.length}, fun j => { vs := [(0, .v (eEnv m mm is)), (3, sv (i : Nat)), (4, .box 0 (eIn y)), (5, .box 0 (eTy (tyJ y j.1))), (6, sv (j.1 : Nat))] },
      fun j => y.vars.length - j.1, ⟨0, Nat.zero_le _⟩, ⟨⟨rfl, rfl, rfl, rfl, rfl, trivial⟩, trivial, rfl⟩, ?_⟩
    rintro ⟨j, hj⟩
    refine ⟨fun h2 => ?_, fun h2 => ?_⟩
    · have h2 : j < y.vars.length := by have h : (j : Int) < ((eSs y.vars).length : Nat) := of_decide_eq_true h2; simp [eSs] at h; omega
      refine ⟨_, by omega, getS h2, rfl, ?_⟩
      refine .inl ⟨_, var_mk y.vars[j], ?_⟩
      refine .inl ⟨_, appT_ok (tyJ y j) [.var y.vars[j]] (by simp), ?_⟩
      refine ⟨by kernel_rfl, ?_⟩
      refine ⟨⟨j + 1, h2⟩, (show y.vars.length - (j + 1) < y.vars.length - j by omega), ⟨rfl, rfl, rfl, ?_, svc (wrap_succ (k := j) (by omega)), trivial⟩, trivial, rfl⟩
      show _ = SV.box 0 (eTy (tyJ y (j + 1)))
      rw [tyJ_succ y h2]
      rfl
    · have h2 : j = y.vars.length := by have h : ¬ (j : Int) < ((eSs y.vars).length : Nat) := of_decide_eq_false h2; simp [eSs] at h; omega
      subst h2
      have hty := tyJ_nA y y.vars.length (Nat.le_refl _)
      have hte := tyJ_all y
      rw [hte] at hty
      revert hte
      generalize tyJ y y.vars.length = ty
      intro hte
      subst hte
      have hC := classC_ok m mm is hs hmt y.cls
      have hcl := lookC_lt hs y.cls
      revert hC hcl hinv
      generalize (lookC m y.cls).getD zCl = c
      generalize (lookC m y.cls).isSome = b
      intro hinv hC hcl
      refine .inl ⟨_, hC, ?_⟩
      refine ⟨{k : Nat // k ≤ c.sup.length ∧ R = ((c.sup.drop k).all (fun c => oneW m is y c) && (is.drop (i + 1)).all fun y => ((lookC m y.cls).getD zCl).sup.all fun c => oneW m is y c)}, fun k => { vs := [(0, .v (eEnv m mm is)), (3, sv (i : Nat)), (4, .box 0 (eIn y)), (5, .box 0 (eTy (hdTy y))), (7, .box 0 (eCl c)), (9, sv (k.1 : Nat))] },
        fun k => c.sup.length - k.1, ⟨0, Nat.zero_le _, hinv⟩, ⟨⟨rfl, rfl, rfl, rfl, rfl, rfl, trivial⟩, trivial, rfl⟩, ?_⟩
      rintro ⟨k, hk, hinv2⟩
      refine ⟨fun h3 => ?_, fun h3 => ?_⟩
      · have h3 : k < c.sup.length := by have h : (k : Int) < ((eSs c.sup).length : Nat) := of_decide_eq_true h3; simp [eSs] at h; omega
        rw [List.drop_eq_getElem_cons h3, List.all_cons] at hinv2
        refine ⟨_, by omega, getS h3, rfl, ?_⟩
        have hB := by_ok m mm is y.prs hm hs hi hy hyi.ok.few (fun q hq => ⟨hyi.ok.plain q hq, by obtain ⟨s, _, e⟩ := hyi.var q hq; rw [e]; simp [Tp.sz]⟩) ((hdTy y).sz + 1) ⟨c.sup[k], hdTy y⟩ hty.1 (by have := hty.2; show (hdTy y).sz < _; omega) (by show (hdTy y).sz < _; omega)
        unfold oneW at hinv2
        revert hB hinv2
        generalize byE m is y.prs ((hdTy y).sz + 1) ⟨c.sup[k], hdTy y⟩ = o
        intro hinv2 hB
        refine .inl ⟨_, hB, ?_⟩
        cases o with
        | none =>
          refine ⟨by kernel_rfl, ?_⟩
          simp only [Option.isSome_none, Bool.false_and] at hinv2
          subst hinv2
          refine ⟨fun hbs => ?_, fun hbs => ?_⟩ <;> first | (exfalso; revert hbs; (simp); done) | skip
          exact rfl
        | some v =>
          refine ⟨by kernel_rfl, ?_⟩
          simp only [Option.isSome_some, Bool.true_and] at hinv2
          refine ⟨fun hbs => ?_, fun hbs => ?_⟩ <;> first | (exfalso; revert hbs; (simp); done) | skip
          exact ⟨⟨k + 1, h3, hinv2⟩, (show c.sup.length - (k + 1) < c.sup.length - k by omega), ⟨rfl, rfl, rfl, rfl, rfl, svc (wrap_succ (k := k) (by omega)), trivial⟩, trivial, rfl⟩
      · have h3 : k = c.sup.length := by have h : ¬ (k : Int) < ((eSs c.sup).length : Nat) := of_decide_eq_false h3; simp [eSs] at h; omega
        subst h3
        rw [List.drop_length, List.all_nil, Bool.true_and] at hinv2
        exact ⟨⟨i + 1, h, hinv2⟩, (show is.length - (i + 1) < is.length - i by omega), ⟨rfl, svc (wrap_succ (k := i) (by omega)), trivial⟩, trivial, rfl⟩
  · have h : i = is.length := by have h : ¬ (i : Int) < (is.length : Nat) := of_decide_eq_false h; omega
    subst h
    rw [List.drop_length, List.all_nil] at hinv
    subst hinv
    exact rfl
end
end Go.Proofs.YtkhnjmbgkakngaaDoor

namespace Go.Proofs.YtkhnjmbgkakngaaDoor
open Go Fp
set_option maxRecDepth 10000
set_option maxHeartbeats 4000000
set_option linter.unusedVariables false
set_option linter.unusedSimpArgs false

theorem predsF_ok {l : List Int} (hl : l.length < 9223372036854775808) (hr : ∀ x ∈ l, InR x) (n : Nat) (hn : n < 1000) : CallsG Tryd.prog (fnv n_fugueref12_Preds) [] [.sl (eIs l), .lit (.int .i64 (n : Nat))] [] fun r o h => r = .sl (ePrs (prd n (l.take 30))) ∧ o = 6 ∧ h = [] := by
  have hr30 : ∀ x ∈ l.take 30, InR x := fun x hx => hr x (List.mem_of_mem_take hx)
  have hl30 : (l.take 30).length < 1000000 := by rw [List.length_take]; omega
  have hI := ints_ok (l := l) (n := 30) hl (by decide)
  revert hr30 hl30 hI
  generalize l.take 30 = m
  intro hr30 hl30 hI
  generalize hR : prd n m = R
  refine callsF_of_wcx ttok mixed Tryd.func11 rfl (by rfl) (Nat.le_of_ble_eq_true rfl) (by kernel_rfl) ?_
  refine .inl ⟨_, names_ok, ?_⟩
  refine .inl ⟨_, hI, ?_⟩
  refine ⟨{p : List Int × List PR // p.2.length ≤ n ∧ p.1.length < 1000000 ∧ (∀ x ∈ p.1, InR x) ∧ R = p.2 ++ prd (n - p.2.length) p.1}, fun p => { vs := [(0, .v (.sl (eIs p.1.1))), (1, sv (n : Nat)), (5, .v (.sl (eSs nms5))), (7, .v (.sl (ePrs p.1.2)))], ow := [(7, 0, 6)] },
    fun p => n - p.1.2.length, ⟨(m, []), Nat.zero_le _, hl30, hr30, hR.symm⟩, ⟨⟨rfl, rfl, rfl, rfl, trivial⟩, ⟨trivial, trivial⟩, rfl⟩, ?_⟩
  rintro ⟨⟨q, out⟩, hout, hlq, hrq, hinv⟩
  simp only at hout hlq hrq hinv
  by_cases hqn : q = []
  · subst hqn
    rw [prd_nil, List.append_nil] at hinv
    subst hinv
    refine ⟨fun hbs => ?_, fun hbs => ?_⟩ <;> first | (exfalso; revert hbs; (simp [eIs]); done) | skip
    exact .inr ⟨rfl, rfl, rfl⟩
  · have hqp : 0 < q.length := List.length_pos_iff.2 hqn
    refine ⟨fun hbs => ?_, fun hbs => ?_⟩ <;> first | (exfalso; revert hbs; (simp [eIs]; omega); done) | skip
    by_cases ho : out.length < n
    · refine ⟨fun hbs => ?_, fun hbs => ?_⟩ <;> first | (exfalso; revert hbs; (simp [ePrs]; omega); done) | skip
      rw [show n - out.length = (n - (out.length + 1)) + 1 by omega, prd_cons _ hqn] at hinv
      obtain ⟨h1, ⟨r5, h2, h3⟩, h4⟩ := stp_ok hlq hrq
      refine .inl ⟨_, h3, ?_⟩
      refine ⟨by decide, ?_⟩
      have hr5 : r5 % 5 < 5 := Nat.mod_lt _ (by decide)
      have hg := nm5_get hr5
      rw [← h2] at hg
      refine ⟨_, (show (0 : Int) ≤ ((r5 % 5 : Nat) : Int) by omega), hg, rfl, ?_⟩
      refine ⟨by decide, by show (1 : Int) ≤ ((eIs q).length : Nat); simp [eIs]; omega, by omega, .inr (uniI _), ?_⟩
      have e : (((eIs q).take ((eIs q).length : Int).toNat).drop (1 : Int).toNat) = eIs (q.drop 1) := by
        rw [show ((eIs q).length : Int).toNat = (eIs q).length from rfl, List.take_length]
        simp [eIs]
      rw [← e] at h4
      refine .inl ⟨_, h4, ?_⟩
      refine ⟨by show (ePrs out).length + 1 ≤ 4294967296; simp [ePrs]; omega, uniPr _, uni1 rfl, ?_⟩
      refine ⟨⟨(q.drop ((stp q).2 + 2), out ++ [(stp q).1]), by simp; omega, by rw [List.length_drop]; omega, fun y hy => hrq y (List.mem_of_mem_drop hy), by rw [hinv]; simp⟩, by show n - (out ++ [(stp q).1]).length < n - out.length; simp; omega, ⟨rfl, rfl, rfl, ?_, trivial⟩, ⟨rfl, trivial⟩, rfl⟩
      show SV.v (.sl (ePrs out ++ [ePr (stp q).1])) = SV.v (.sl (ePrs (out ++ [(stp q).1])))
      rw [ePrs_snoc]
    · refine ⟨fun hbs => ?_, fun hbs => ?_⟩ <;> first | (exfalso; revert hbs; (simp [ePrs]; omega); done) | skip
      have : n - out.length = 0 := by omega
      rw [this, prd, List.append_nil] at hinv
      subst hinv
      exact .inr ⟨rfl, rfl, rfl⟩
end Go.Proofs.YtkhnjmbgkakngaaDoor

namespace Go.Proofs.YtkhnjmbgkakngaaDoor
open Go Fp
set_option maxRecDepth 10000
set_option maxHeartbeats 8000000
set_option linter.unusedVariables false
set_option linter.unusedSimpArgs false

theorem sml3 {t : Tp} (h : Sml 3 t) : nA t ∧ t.sz < 1000000 ∧ hgt t ≤ 6 := ⟨h.na, by have := h.sz; omega, by have := h.hb; omega⟩
/-- What New tells, of a good world. -/
theorem new_ok {cs : List Cl} {is : List In} (W : GoodW cs is) : ∃ (b : Bool) (e : AV) (q : Int × Int), CallsG Tryd.prog (fnv n_classes_New) [] [eProg cs is] [] (fun r o h => r = .tup [e, eAt q] ∧ o = 0 ∧ h = []) ∧ e = if b then eEnv cs.reverse (eM (mthAll cs cs.length)) is else .lit (.pointer none) := by
  have hN := newE_calls cs is W.nd (by have := W.few; omega) (fun c hc => by have := W.sup c hc; omega) (fun c hc => by have := W.mth c hc; omega) (by have := W.ins; omega)
  by_cases h0 : (leastR (refs cs.reverse cs is)).1 = 0
  · rw [if_pos h0] at hN
    exact ⟨true, _, _, hN, rfl⟩
  · rw [if_neg h0] at hN
    exact ⟨false, _, _, hN, rfl⟩
/-- Predicates that are plain. -/
def Pl (l : List PR) : Prop := ∀ q ∈ l, nA q.ty ∧ q.ty.sz < 1000000
theorem prd_pl {l : List Int} (hr : ∀ x ∈ l, InR x) (n : Nat) : Pl (prd n (l.take 30)) := fun q hq => by
  have := sml3 (prd_sml n (l := l.take 30) (by rw [List.length_take]; omega) (fun x hx => hr x (List.mem_of_mem_take hx)) q hq)
  exact ⟨this.1, this.2.1⟩
noncomputable def holds (m : List Cl) (is : List In) (g : List PR) (q : PR) : Bool := (byE m is g (q.ty.sz + 1) q).isSome
theorem holds_iff {m : List Cl} {is : List In} {g : List PR} (hy : ∀ y ∈ is, WIn y) {q : PR} (hq : nA q.ty) : holds m is g q = true ↔ Dv m is g q := by
  unfold holds
  constructor
  · intro h
    obtain ⟨v, hv⟩ := Option.isSome_iff_exists.1 h
    exact byE_dv _ _ v hv
  · intro h
    obtain ⟨v, hv⟩ := dv_byE hy h hq (q.ty.sz + 1) (by omega)
    rw [hv]; rfl
theorem entailCut_ok {l0 l1 l2 l3 : List Int} (hl0 : l0.length < 9223372036854775808) (hr0 : ∀ x ∈ l0, InR x) (hl1 : l1.length < 9223372036854775808) (hr1 : ∀ x ∈ l1, InR x) (hl2 : l2.length < 9223372036854775808) (hr2 : ∀ x ∈ l2, InR x) (hl3 : l3.length < 9223372036854775808) (hr3 : ∀ x ∈ l3, InR x) :
    ACall Tryd.prog n_fuguelaw12_EntailCut [.sl (eIs l0), .agg [.sl (eIs l1), .sl (eIs l2), .sl (eIs l3)]] (.sb true) := by
  obtain ⟨cs, is, W, hW⟩ := world_good hl0 hr0
  obtain ⟨b, e, q, hN, he⟩ := new_ok W
  have hP1 := predsF_ok hl1 hr1 4 (by decide)
  have hP2 := predsF_ok hl2 hr2 4 (by decide)
  have hP3 := predsF_ok hl3 hr3 4 (by decide)
  have hg1 := prd_len 4 (l1.take 30)
  have hg2 := prd_len 4 (l2.take 30)
  have hg3 := prd_len 4 (l3.take 30)
  have hs1 := prd_pl hr1 4
  have hs2 := prd_pl hr2 4
  have hs3 := prd_pl hr3 4
  revert hP1 hP2 hP3 hg1 hg2 hg3 hs1 hs2 hs3
  generalize prd 4 (l1.take 30) = oth
  generalize prd 4 (l2.take 30) = al2
  generalize prd 4 (l3.take 30) = x0
  intro hP1 hP2 hP3 hg1 hg2 hg3 hs1 hs2 hs3
  refine acall_of_wsem ttok mixed Tryd.func3 rfl (by rfl) (Nat.le_of_ble_eq_true rfl) (by kernel_rfl) ?_
  refine Wsem.seq ttok mixed ?_
  refine Wsem.seq ttok mixed ?_
  refine .inl ⟨_, hW, ?_⟩
  refine .inr (.inr (.inr (.inr (.inr (.inl ⟨[], [], [], _, rfl, by decide, rfl, hN, ?_⟩)))))
  rintro r o h ⟨rfl, rfl, rfl⟩
  cases b with
  | false =>
    simp only [Bool.false_eq_true, if_false] at he
    subst he
    refine Wsem.cut { vs := [(5, .v (.lit (.pointer none)))] } ⟨⟨rfl, trivial⟩, trivial, rfl⟩ ?_
    refine Wsem.of ttok mixed ?_
    refine .inl ⟨_, lives_ok, ?_⟩
    exact rfl
  | true =>
    simp only [if_true] at he
    subst he
    have hfew := W.few
    have hins := W.ins
    have hrl : cs.reverse.length < 1000 := by rw [List.length_reverse]; omega
    have hrs : ∀ c ∈ cs.reverse, c.sup.length < 1000 := fun c hc => by have := W.sup c (List.mem_reverse.1 hc); omega
    have hrm : ∀ c ∈ cs.reverse, c.mth.length < 1000 := fun c hc => by have := W.mth c (List.mem_reverse.1 hc); omega
    have hy : ∀ y ∈ is, WIn y := fun y hy => (W.sml y hy).win
    have hnd : ∀ y ∈ is, y.vars.Nodup := fun y hy => (W.sml y hy).nd
    have hWh := whole_ok cs.reverse (eM (mthAll cs cs.length)) is hrl hrs hrm (by omega) hy
    generalize eM (mthAll cs cs.length) = mm at hWh
    have hBy := fun (g : List PR) (hg : g.length < 100000) (hgp : Pl g) (z : PR) (hz : nA z.ty ∧ z.ty.sz < 1000000) => by_ok cs.reverse mm is g hrl hrs (by omega) hy hg hgp (z.ty.sz + 1) z hz.1 hz.2 (by omega)
    have hAb := fun s => aboveL_ok cs.reverse mm is hrl hrs s
    have hAbl : ∀ s, (abv cs.reverse (cs.reverse.length + 1) s []).length ≤ 5 := fun s => by
      have := upE_len cs.reverse s
      unfold upE at this
      rw [List.length_reverse] at this ⊢; omega
    have hcut := fun (L : List PR) (hn : ∀ q ∈ L, nA q.ty) (hL : ∀ q ∈ L, Dv cs.reverse is oth q) (hw : wholeE cs.reverse is = true) {x : PR} (h : Dv cs.reverse is L x) => cut_law hy hnd (wholeE_whl hw) hn hL h
    generalize cs.reverse = m at *
    refine Wsem.cut { vs := [(3, .box 0 (.agg [.sl (eIs l1), .sl (eIs l2), .sl (eIs l3)])), (5, .v (eEnv m mm is))] } ⟨⟨rfl, rfl, trivial⟩, trivial, rfl⟩ ?_
    refine Wsem.seq ttok mixed ?_
    refine .inl ⟨_, hWh, ?_⟩
    cases hw : wholeE m is with
    | false =>
      refine ⟨fun hbs => ?_, fun hbs => ?_⟩ <;> first | (exfalso; revert hbs; (simp); done) | skip
      refine .inl ⟨_, lives_ok, ?_⟩
      exact rfl
    | true =>
      refine ⟨fun hbs => ?_, fun hbs => ?_⟩ <;> first | (exfalso; revert hbs; (simp); done) | skip
      have hcut := fun (L : List PR) hn hL {x : PR} h => hcut L hn hL hw (x := x) h
      refine Wsem.cut { vs := [(3, .box 0 (.agg [.sl (eIs l1), .sl (eIs l2), .sl (eIs l3)])), (5, .v (eEnv m mm is))] } ⟨⟨rfl, rfl, trivial⟩, trivial, rfl⟩ ?_
      refine Wsem.shut 3 rfl ?_
      refine Wsem.cut { vs := [(3, .v (.ptr [.sl (eIs l1), .sl (eIs l2), .sl (eIs l3)])), (5, .v (eEnv m mm is))] } ⟨⟨rfl, rfl, trivial⟩, trivial, rfl⟩ ?_
      refine Wsem.seqS (Wsem.regionIx ttok rfl rfl rfl Tryd.underlying23 Tryd.sizeOf22 (by decide) (by decide) rfl ?_)
      refine .inr (.inr (.inr (.inr (.inr (.inl ⟨[], [], [], _, rfl, by decide, rfl, hP1, ?_⟩)))))
      rintro r o h ⟨rfl, rfl, rfl⟩
      refine Wsem.cut { vs := [(3, .v (.ptr [.sl (eIs l1), .sl (eIs l2), .sl (eIs l3)])), (5, .v (eEnv m mm is)), (7, .v (.sl (ePrs oth)))] } ⟨⟨rfl, rfl, rfl, trivial⟩, trivial, rfl⟩ ?_
      refine Wsem.seqS (Wsem.regionIx ttok rfl rfl rfl Tryd.underlying23 Tryd.sizeOf22 (by decide) (by decide) rfl ?_)
      refine .inr (.inr (.inr (.inr (.inr (.inl ⟨[], [], [], _, rfl, by decide, rfl, hP2, ?_⟩)))))
      rintro r o h ⟨rfl, rfl, rfl⟩
      refine ⟨by show (ePrs al2).length + (ePrs oth).length ≤ 4294967296; simp [ePrs]; omega, uniPr _, uniPr _, ?_⟩
      have eal : ePrs al2 ++ ePrs oth = ePrs (al2 ++ oth) := by simp [ePrs]
      refine Wsem.cut { vs := [(3, .v (.ptr [.sl (eIs l1), .sl (eIs l2), .sl (eIs l3)])), (5, .v (eEnv m mm is)), (7, .v (.sl (ePrs oth))), (8, .v (.sl (ePrs (al2 ++ oth))))] } ⟨⟨rfl, rfl, rfl, by show SV.v (.sl (ePrs al2 ++ ePrs oth)) = _; rw [eal], trivial⟩, trivial, rfl⟩ ?_
      have hall : Pl (al2 ++ oth) := fun q hq => (List.mem_append.1 hq).elim (hs2 q) (hs1 q)
      have halen : (al2 ++ oth).length ≤ 8 := by rw [List.length_append]; omega
      generalize al2 ++ oth = all at hall halen
      refine Wsem.seqS (Wsem.regionIx ttok rfl rfl rfl Tryd.underlying23 Tryd.sizeOf22 (by decide) (by decide) rfl ?_)
      refine .inr (.inr (.inr (.inr (.inr (.inl ⟨[], [], [], _, rfl, by decide, rfl, hP3, ?_⟩)))))
      rintro r o h ⟨rfl, rfl, rfl⟩
      refine Wsem.cut { vs := [(5, .v (eEnv m mm is)), (7, .v (.sl (ePrs oth))), (8, .v (.sl (ePrs all))), (9, .v (.sl (ePrs x0)))], ow := [(9, 0, 6)] } ⟨⟨rfl, rfl, rfl, rfl, trivial⟩, ⟨rfl, trivial⟩, rfl⟩ ?_
      refine Wsem.seq ttok mixed ?_
      refine Wsem.seq ttok mixed ?_
      refine ⟨{p : Nat × List PR // p.1 ≤ all.length ∧ p.2.length ≤ p.1 ∧ ∀ q ∈ p.2, (nA q.ty ∧ q.ty.sz < 1000000) ∧ holds m is oth q = true}, fun p => { vs := [(5, .v (eEnv m mm is)), (7, .v (.sl (ePrs oth))), (8, .v (.sl (ePrs all))), (9, .v (.sl (ePrs x0))), (10, .v (.sl (ePrs p.1.2))), (11, sv (p.1.1 : Nat))], ow := [(9, 0, 6), (10, 0, 6)] },
        fun p => all.length - p.1.1, ⟨(0, []), Nat.zero_le _, Nat.le_refl _, fun q hq => by simp at hq⟩, ⟨⟨rfl, rfl, rfl, rfl, rfl, rfl, trivial⟩, ⟨rfl, trivial, trivial⟩, rfl⟩, ?_⟩
      rintro ⟨⟨i, gv⟩, hi, hgl, hgv⟩
      simp only at hi hgl hgv
      refine ⟨fun h => ?_, fun h => ?_⟩
      · have h : i < all.length := by have h : (i : Int) < ((ePrs all).length : Nat) := of_decide_eq_true h; simp [ePrs] at h; omega
        have hq := hall _ (List.getElem_mem h)
        have hB := hBy oth (by omega) hs1 all[i] hq
        have hho : holds m is oth all[i] = (byE m is oth (all[i].ty.sz + 1) all[i]).isSome := rfl
        revert hB hho
        generalize byE m is oth (all[i].ty.sz + 1) all[i] = o
        intro hB hho
        refine ⟨_, by omega, getPr h, rfl, ?_⟩
        refine .inl ⟨_, hB, ?_⟩
        cases o with
        | none =>
          refine ⟨fun hbs => ?_, fun hbs => ?_⟩ <;> first | (exfalso; revert hbs; (simp); done) | skip
          exact ⟨⟨(i + 1, gv), h, by show gv.length ≤ i + 1; omega, hgv⟩, (show all.length - (i + 1) < all.length - i by omega), ⟨rfl, rfl, rfl, rfl, rfl, svc (wrap_succ (k := i) (by omega)), trivial⟩, ⟨rfl, rfl, trivial⟩, rfl⟩
        | some v =>
          refine ⟨fun hbs => ?_, fun hbs => ?_⟩ <;> first | (exfalso; revert hbs; (simp); done) | skip
          refine ⟨_, by omega, getPr h, rfl, ?_⟩
          refine ⟨by show (ePrs gv).length + 1 ≤ 4294967296; simp [ePrs]; omega, uniPr _, uni1 rfl, ?_⟩
          refine ⟨⟨(i + 1, gv ++ [all[i]]), h, by show (gv ++ [all[i]]).length ≤ i + 1; simp; omega, fun q hqm => ?_⟩, (show all.length - (i + 1) < all.length - i by omega), ⟨rfl, rfl, rfl, rfl, by show SV.v (.sl (ePrs gv ++ [ePr all[i]])) = _; rw [ePrs_snoc], svc (wrap_succ (k := i) (by omega)), trivial⟩, ⟨rfl, rfl, trivial⟩, rfl⟩
          rcases List.mem_append.1 hqm with hqm | hqm
          · exact hgv q hqm
          · simp at hqm; subst hqm; exact ⟨hq, by rw [hho]; rfl⟩
      · have h : i = all.length := by have h : ¬ (i : Int) < ((ePrs all).length : Nat) := of_decide_eq_false h; simp [ePrs] at h; omega
        subst h
        have hgl2 : gv.length ≤ 8 := by omega
        refine Wsem.seq ttok mixed ?_
        refine ⟨{p : Nat × List PR // p.1 ≤ 4 ∧ p.2.length ≤ 4 + p.1 * 5 ∧ Pl p.2}, fun p => { vs := [(5, .v (eEnv m mm is)), (7, .v (.sl (ePrs oth))), (8, .v (.sl (ePrs all))), (9, .v (.sl (ePrs p.1.2))), (10, .v (.sl (ePrs gv))), (14, sv (p.1.1 : Nat))], ow := [(9, 0, 6)] },
          fun p => 4 - p.1.1, ⟨(0, x0), Nat.zero_le _, hg3, hs3⟩, ⟨⟨rfl, rfl, rfl, rfl, rfl, rfl, trivial⟩, ⟨rfl, trivial⟩, rfl⟩, ?_⟩
        rintro ⟨⟨i, xs⟩, hi, hxl, hxs⟩
        simp only at hi hxl hxs
        have fin : Wsem Tryd.prog (sndC (sndC (sndC (sndC (sndC (sndC (sndC (sndC (sndC (bodyC Tryd.f3)))))))))) (mkC { vs := [(5, .v (eEnv m mm is)), (7, .v (.sl (ePrs oth))), (9, .v (.sl (ePrs xs))), (10, .v (.sl (ePrs gv)))] })
            (fun c => RetP tt Tryd.f3.results.toList (.sb true) (den c)) (fun _ _ => False) (fun c => RetP tt Tryd.f3.results.toList (.sb true) (den c)) := by
          refine Wsem.of ttok mixed ?_
          refine ⟨{k : Nat // k ≤ xs.length}, fun k => { vs := [(5, .v (eEnv m mm is)), (7, .v (.sl (ePrs oth))), (9, .v (.sl (ePrs xs))), (10, .v (.sl (ePrs gv))), (17, sv (k.1 : Nat))] },
            fun k => xs.length - k.1, ⟨0, Nat.zero_le _⟩, ⟨⟨rfl, rfl, rfl, rfl, rfl, trivial⟩, trivial, rfl⟩, ?_⟩
          rintro ⟨k, hk⟩
          refine ⟨fun h => ?_, fun h => ?_⟩
          · have h : k < xs.length := by have h : (k : Int) < ((ePrs xs).length : Nat) := of_decide_eq_true h; simp [ePrs] at h; omega
            have hq := hxs _ (List.getElem_mem h)
            have hB1 := hBy gv (by omega) (fun q hq => (hgv q hq).1) xs[k] hq
            have hB2 := hBy oth (by omega) hs1 xs[k] hq
            have hi1 : holds m is gv xs[k] = (byE m is gv (xs[k].ty.sz + 1) xs[k]).isSome := rfl
            have hi2 : holds m is oth xs[k] = (byE m is oth (xs[k].ty.sz + 1) xs[k]).isSome := rfl
            have himp : holds m is gv xs[k] = true → holds m is oth xs[k] = true := fun h =>
              (holds_iff hy hq.1).2 (hcut gv (fun q hq => (hgv q hq).1.1) (fun q hq => (holds_iff hy (hgv q hq).1.1).1 (hgv q hq).2) ((holds_iff hy hq.1).1 h))
            rw [hi1, hi2] at himp
            clear hi1 hi2
            have hn : xs.length - (k + 1) < xs.length - k := by omega
            revert hB1 hB2 himp
            generalize byE m is gv (xs[k].ty.sz + 1) xs[k] = o1
            generalize byE m is oth (xs[k].ty.sz + 1) xs[k] = o2
            intro hB1 hB2 himp
            refine ⟨_, by omega, getPr h, rfl, ?_⟩
            refine .inl ⟨_, hB1, ?_⟩
            cases o1 with
            | none =>
              refine ⟨_, by omega, getPr h, rfl, ?_⟩
              refine .inl ⟨_, hB2, ?_⟩
              cases o2 with
              | none =>
                refine ⟨fun hbs => ?_, fun hbs => ?_⟩ <;> first | (exfalso; revert hbs; (simp); done) | skip
                exact ⟨⟨k + 1, h⟩, hn, ⟨rfl, rfl, rfl, rfl, svc (wrap_succ (k := k) (by omega)), trivial⟩, trivial, rfl⟩
              | some v =>
                refine ⟨fun hbs => ?_, fun hbs => ?_⟩ <;> first | (exfalso; revert hbs; (simp); done) | skip
                exact ⟨⟨k + 1, h⟩, hn, ⟨rfl, rfl, rfl, rfl, svc (wrap_succ (k := k) (by omega)), trivial⟩, trivial, rfl⟩
            | some v1 =>
              refine ⟨_, by omega, getPr h, rfl, ?_⟩
              refine .inl ⟨_, hB2, ?_⟩
              cases o2 with
              | none => have := himp rfl; cases this
              | some v =>
                refine ⟨fun hbs => ?_, fun hbs => ?_⟩ <;> first | (exfalso; revert hbs; (simp); done) | skip
                refine ⟨fun hbs => ?_, fun hbs => ?_⟩ <;> first | (exfalso; revert hbs; (simp); done) | skip
                exact ⟨⟨k + 1, h⟩, hn, ⟨rfl, rfl, rfl, rfl, svc (wrap_succ (k := k) (by omega)), trivial⟩, trivial, rfl⟩
          · refine .inl ⟨_, lives_ok, ?_⟩
            exact rfl
        refine ⟨fun h => ?_, fun h => ?_⟩
        rotate_left
        · refine Wsem.cut _ ?_ fin
          exact ⟨⟨rfl, rfl, rfl, rfl, trivial⟩, trivial, rfl⟩
        have h : i < all.length := by have h : (i : Int) < ((ePrs all).length : Nat) := of_decide_eq_true h; simp [ePrs] at h; omega
        refine ⟨fun h4 => ?_, fun h4 => ?_⟩
        rotate_left
        · refine Wsem.cut _ ?_ fin
          exact ⟨⟨rfl, rfl, rfl, rfl, trivial⟩, trivial, rfl⟩
        have h4 : i < 4 := by have h : (i : Int) < 4 := of_decide_eq_true h4; omega
        refine ⟨_, by omega, getPr h, rfl, ?_⟩
        have hU := hAb all[i].cls
        have hUl := hAbl all[i].cls
        revert hU hUl
        generalize abv m (m.length + 1) all[i].cls [] = up
        intro hU hUl
        refine .inl ⟨_, hU, ?_⟩
        refine ⟨{p : Nat × List PR // p.1 ≤ up.length ∧ p.2.length ≤ 4 + i * 5 + p.1 ∧ Pl p.2}, fun p => { vs := [(5, .v (eEnv m mm is)), (7, .v (.sl (ePrs oth))), (8, .v (.sl (ePrs all))), (9, .v (.sl (ePrs p.1.2))), (10, .v (.sl (ePrs gv))), (14, sv (i : Nat)), (15, .v (.sl (eSs up))), (16, sv (p.1.1 : Nat))], ow := [(9, 0, 6)] },
          fun p => up.length - p.1.1, ⟨(0, xs), Nat.zero_le _, hxl, hxs⟩, ⟨⟨rfl, rfl, rfl, rfl, rfl, rfl, rfl, rfl, trivial⟩, ⟨rfl, trivial⟩, rfl⟩, ?_⟩
        rintro ⟨⟨j, ys⟩, hj, hyl, hys⟩
        simp only at hj hyl hys
        refine ⟨fun h5 => ?_, fun h5 => ?_⟩
        · have h5 : j < up.length := by have h : (j : Int) < ((eSs up).length : Nat) := of_decide_eq_true h5; simp [eSs] at h; omega
          refine ⟨_, by omega, getS h5, rfl, ?_⟩
          refine ⟨_, by omega, getPr h, rfl, ?_⟩
          refine ⟨by show (ePrs ys).length + 1 ≤ 4294967296; simp [ePrs]; omega, uniPr _, uni1 rfl, ?_⟩
          refine ⟨by kernel_rfl, ?_⟩
          refine ⟨⟨(j + 1, ys ++ [⟨up[j], all[i].ty⟩]), h5, by show (ys ++ [_]).length ≤ 4 + i * 5 + (j + 1); simp; omega, fun q hqm => ?_⟩, (show up.length - (j + 1) < up.length - j by omega), ⟨rfl, rfl, rfl, by show SV.v (.sl (ePrs ys ++ [ePr ⟨up[j], all[i].ty⟩])) = _; rw [ePrs_snoc], rfl, rfl, rfl, svc (wrap_succ (k := j) (by omega)), trivial⟩, ⟨rfl, trivial⟩, rfl⟩
          rcases List.mem_append.1 hqm with hqm | hqm
          · exact hys q hqm
          · simp at hqm; subst hqm; exact hall all[i] (List.getElem_mem h)
        · have h5 : j = up.length := by have h : ¬ (j : Int) < ((eSs up).length : Nat) := of_decide_eq_false h5; simp [eSs] at h; omega
          subst h5
          exact ⟨⟨(i + 1, ys), h4, by show ys.length ≤ 4 + (i + 1) * 5; omega, hys⟩, (show 4 - (i + 1) < 4 - i by omega), ⟨rfl, rfl, rfl, rfl, rfl, svc (wrap_succ (k := i) (by omega)), trivial⟩, ⟨rfl, trivial⟩, rfl⟩
end Go.Proofs.YtkhnjmbgkakngaaDoor
