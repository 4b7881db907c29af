/- The law EntailTells: how a predicate holds is the document's, and its print. -/
import Derived.Test.YtkhnjmbgkakngaaGreatDoorM
set_option linter.unusedSimpArgs false
set_option linter.unusedVariables false
namespace Go.Proofs.YtkhnjmbgkakngaaGreatDoor
open Go Fp
set_option maxRecDepth 10000
set_option maxHeartbeats 8000000
set_option linter.unusedVariables false
set_option linter.unusedSimpArgs false

theorem sml3 {t : Tp} (h : Sml 3 t) : nA t ∧ t.sz < 1000000 ∧ hgt t ≤ 6 := ⟨h.na, by have := h.sz; omega, by have := h.hb; omega⟩
theorem zOk : EvOk zEv := .mk (n := 0) (by decide) (by decide) (by decide) (fun k hk => by simp at hk)
theorem entailTells_ok {l0 l1 l2 : List Int} (hl0 : l0.length < 9223372036854775808) (hr0 : ∀ x ∈ l0, InR x) (hl1 : l1.length < 9223372036854775808) (hr1 : ∀ x ∈ l1, InR x) (hl2 : l2.length < 9223372036854775808) (hr2 : ∀ x ∈ l2, InR x) :
    ACall Tryz.prog n_fuguelaw12_EntailTells [.sl (eIs l0), .sl (eIs l1), .sl (eIs l2)] (.sb true) := by
  obtain ⟨cs, is, W, hW⟩ := world_good hl0 hr0
  have hN := newE_calls cs is W.nd (by have := W.few; omega) (fun c hc => by have := W.sup c hc; omega) (fun c hc => by have := W.mth c hc; omega) (by have := W.ins; omega)
  have hP1 := preds_ok hl1 hr1 5 (by decide)
  have hP2 := preds_ok hl2 hr2 4 (by decide)
  have hg1 := prd_len 5 (l1.take 30)
  have hg2 := prd_len 4 (l2.take 30)
  have hs1 := prd_sml 5 (l := l1.take 30) (by rw [List.length_take]; omega) (fun x hx => hr1 x (List.mem_of_mem_take hx))
  have hs2 := prd_sml 4 (l := l2.take 30) (by rw [List.length_take]; omega) (fun x hx => hr2 x (List.mem_of_mem_take hx))
  revert hP1 hP2 hg1 hg2 hs1 hs2
  generalize prd 5 (l1.take 30) = g
  generalize prd 4 (l2.take 30) = x
  intro hP1 hP2 hg1 hg2 hs1 hs2
  have hnew : ∃ (b : Bool) (e : AV) (q : Int × Int), CallsG Tryz.prog (fnv n_classes_New) [] [eProg cs is] [] (fun r o h => r = .tup [e, eAt q] ∧ o = 0 ∧ h = []) ∧ e = if b then eEnv cs.reverse (eM (mthAll cs cs.length)) is else .lit (.pointer none) := by
    by_cases h0 : (leastR (refs cs.reverse cs is)).1 = 0
    · rw [if_pos h0] at hN
      exact ⟨true, _, _, hN, rfl⟩
    · rw [if_neg h0] at hN
      exact ⟨false, _, _, hN, rfl⟩
  obtain ⟨b, e, q, hN', he⟩ := hnew
  refine acall_of_wsem ttok mixed Tryz.func3 rfl (by rfl) (Nat.le_of_ble_eq_true rfl) (by kernel_rfl) ?_
  refine Wsem.seq ttok mixed ?_
  refine Wsem.seq ttok mixed ?_
  refine .inl ⟨_, hW, ?_⟩
  refine Wsem.seq ttok mixed ?_
  refine .inr (.inr (.inr (.inr (.inr (.inl ⟨[], [], [], _, rfl, by decide, rfl, hN', ?_⟩)))))
  rintro r o h ⟨rfl, rfl, rfl⟩
  cases b with
  | false =>
    simp only [Bool.false_eq_true, if_false] at he
    subst he
    refine Wsem.cut { vs := [(8, .v (.lit (.pointer none)))] } ⟨⟨rfl, trivial⟩, trivial, rfl⟩ ?_
    refine Wsem.of ttok mixed ?_
    refine .inl ⟨_, lives_ok, ?_⟩
    exact rfl
  | true =>
    simp only [if_true] at he
    subst he
    refine Wsem.cut { vs := [(1, .v (.sl (eIs l1))), (2, .v (.sl (eIs l2))), (7, .box 0 (eProg cs is)), (8, .v (eEnv cs.reverse (eM (mthAll cs cs.length)) is))] } ⟨⟨rfl, rfl, rfl, rfl, trivial⟩, trivial, rfl⟩ ?_
    refine Wsem.of ttok mixed ?_
    refine .inl ⟨_, hP1, ?_⟩
    refine .inl ⟨_, hP2, ?_⟩
    refine ⟨{k : Nat // k ≤ x.length}, fun k => { vs := [(7, .box 0 (eProg cs is)), (8, .v (eEnv cs.reverse (eM (mthAll cs cs.length)) is)), (10, .v (.sl (ePrs g))), (11, .v (.sl (ePrs x))), (12, sv (k.1 : Nat))] },
      fun k => x.length - k.1, ⟨0, Nat.zero_le _⟩, ⟨⟨rfl, rfl, rfl, rfl, rfl, trivial⟩, trivial, rfl⟩, ?_⟩
    rintro ⟨k, hk⟩
    refine ⟨fun h => ?_, fun h => ?_⟩
    · have h : k < x.length := by have h : (k : Int) < ((ePrs x).length : Nat) := of_decide_eq_true h; simp [ePrs] at h; omega
      have hw : ∀ y ∈ is, WIn y := fun y hy => (W.sml y hy).win
      have hxk := sml3 (hs2 x[k] (List.getElem_mem h))
      have hgg : ∀ g' ∈ g, nA g'.ty ∧ g'.ty.sz < 1000000 := fun g' hg' => ⟨(sml3 (hs1 g' hg')).1, (sml3 (hs1 g' hg')).2.1⟩
      have hrl : cs.reverse.length ≤ 5 := by rw [List.length_reverse]; exact W.few
      have hrs : ∀ c ∈ cs.reverse, c.sup.length ≤ 2 := fun c hc => W.sup c (List.mem_reverse.1 hc)
      have hfew := W.few
      have hins := W.ins
      have hB := by_ok cs.reverse (eM (mthAll cs cs.length)) is g (by omega) (fun c hc => by have := hrs c hc; omega) (by omega) hw (by omega) hgg (x[k].ty.sz + 1) x[k] hxk.1 hxk.2.1 (by omega)
      have hB2 := rby_ok cs is g W.nd (by omega) (fun c hc => by have := W.sup c hc; omega) (by omega) hw (by omega) hgg (x[k].ty.sz + 1) x[k] hxk.1 hxk.2.1 (by omega)
      have hE := fun v => byE_ok (cs := cs.reverse) hrl hrs hins W.sml g (by omega) 6 (x[k].ty.sz + 1) x[k] v hxk.2.2 (by decide)
      revert hB hB2 hE
      generalize byE cs.reverse is g (x[k].ty.sz + 1) x[k] = o
      intro hB hB2 hE
      have hn : x.length - (k + 1) < x.length - k := by omega
      refine ⟨_, by omega, getPr h, rfl, ?_⟩
      refine .inl ⟨_, hB, ?_⟩
      cases o with
      | none =>
        refine ⟨_, by omega, getPr h, rfl, ?_⟩
        refine .inl ⟨_, hB2, ?_⟩
        refine ⟨by kernel_rfl, ?_⟩
        refine ⟨fun hbs => ?_, fun hbs => ?_⟩ <;> first | (exfalso; revert hbs; (simp); done) | skip
        refine .inl ⟨_, rsame_ok zOk, ?_⟩
        refine ⟨fun hbs => ?_, fun hbs => ?_⟩ <;> first | (exfalso; revert hbs; (simp); done) | skip
        refine ⟨fun hbs => ?_, fun hbs => ?_⟩ <;> first | (exfalso; revert hbs; (simp); done) | skip
        refine ⟨by kernel_rfl, ?_⟩
        exact ⟨⟨k + 1, h⟩, hn, ⟨rfl, rfl, rfl, rfl, svc (wrap_succ (k := k) (by omega)), trivial⟩, trivial, rfl⟩
      | some v =>
        refine ⟨_, by omega, getPr h, rfl, ?_⟩
        refine .inl ⟨_, hB2, ?_⟩
        refine ⟨by kernel_rfl, ?_⟩
        have hv := (hE v rfl).1
        refine ⟨fun hbs => ?_, fun hbs => ?_⟩ <;> first | (exfalso; revert hbs; (simp); done) | skip
        refine .inl ⟨_, rsame_ok hv, ?_⟩
        refine ⟨fun hbs => ?_, fun hbs => ?_⟩ <;> first | (exfalso; revert hbs; (simp); done) | skip
        refine ⟨fun hbs => ?_, fun hbs => ?_⟩ <;> first | (exfalso; revert hbs; (simp); done) | skip
        refine .inl ⟨_, print_ok hv, ?_⟩
        refine .inl ⟨_, rprint_ok hv, ?_⟩
        refine ⟨by kernel_rfl, ?_⟩
        refine ⟨fun hbs => ?_, fun hbs => ?_⟩ <;> first | (exfalso; revert hbs; (simp); done) | skip
        exact ⟨⟨k + 1, h⟩, hn, ⟨rfl, rfl, rfl, rfl, svc (wrap_succ (k := k) (by omega)), trivial⟩, trivial, rfl⟩
    · refine .inl ⟨_, lives_ok, ?_⟩
      exact rfl
end Go.Proofs.YtkhnjmbgkakngaaGreatDoor
