/- Simple of the code. -/
import Derived.Test.YtkhnjmbgkakngaaGreatDoorR
set_option linter.unusedSimpArgs false
set_option linter.unusedVariables false
namespace Go.Proofs.YtkhnjmbgkakngaaGreatDoor
open Go Fp
set_option maxRecDepth 10000
set_option maxHeartbeats 8000000
set_option linter.unusedVariables false
set_option linter.unusedSimpArgs false

section
variable (m : List Cl) (mm : List (AV × AV)) (is : List In) (hm : m.length < 1000) (hsup : ∀ c ∈ m, c.sup.length < 1000) (hi : is.length < 20000) (hy : ∀ y ∈ is, SmlI y)
include hm hsup hi hy
theorem simple_ok (n : Nat) (l : List PR) (hl : PlS l) (hn : ∀ q ∈ l, q.ty.sz < n) (hl8 : l.length ≤ 8) : ACall Tryz.prog n_entail_Simple [eEnv m mm is, .sl (ePrs l)] (hdR (simE m is n l)) := by
  have hH := head_ok m mm is hi hy n l hl hn hl8
  unfold simE
  have hlp : ∀ o, (catO (hdP is n) l).map (dd []) = some o → PlS o ∧ o.length ≤ 40000 := fun o ho => by
    obtain ⟨m1, h1, h2⟩ := Option.map_eq_some_iff.1 ho
    subst h2
    refine ⟨dd_plS (fun q hq => by simp at hq) (catO_all (fun q hq m hm => hdP_plS hy n q m (hl q hq) hm) h1), ?_⟩
    have := catO_len (B := 4096) (fun q hq m hm => by have := hdP_len hy 6 n q m (hl q hq).2.2 hm; rwa [ps4] at this) h1
    have h3 := dd_len m1 []
    simp at h3; omega
  revert hH hlp
  generalize (catO (hdP is n) l).map (dd []) = oc
  intro hH hlp
  cases oc with
  | none =>
    refine acall_of_wcx ttok mixed Tryz.func16 rfl (by rfl) (Nat.le_of_ble_eq_true rfl) (by kernel_rfl) ?_
    refine .inl ⟨_, hH, ?_⟩
    refine ⟨fun hbs => ?_, fun hbs => ?_⟩ <;> first | (exfalso; revert hbs; (simp); done) | skip
    exact rfl
  | some l0 =>
    obtain ⟨hp0, hl0⟩ := hlp l0 rfl
    generalize hR : hdR (Option.map (fun l => smpE m is l.length l 0) (some l0)) = R
    rw [Option.map_some] at hR
    refine CallsG.pure (callsG_of_wcx (first := []) (cap := []) ttok mixed Tryz.func16 rfl (by rfl) rfl (Nat.le_of_ble_eq_true rfl) (by kernel_rfl) (post := fun r o h => o = 0 ∧ r = R) ?_) (fun r o h hp => ⟨hp.2 ▸ .refl _, hp.1⟩)
    refine .inl ⟨_, hH, ?_⟩
    refine ⟨fun hbs => ?_, fun hbs => ?_⟩ <;> first | (exfalso; revert hbs; (simp); done) | skip
    refine .inr ⟨rfl, fun b => ?_⟩
    refine ⟨{p : Nat × List PR // p.1 ≤ p.2.length ∧ PlS p.2 ∧ p.2.length ≤ 40000 ∧ R = hdR (some (smpE m is (p.2.length - p.1) p.2 p.1))}, fun p => { vs := [(0, .v (eEnv m mm is)), (6, .v (.lit (.pointer (some ⟨b, 0, none⟩)))), (8, .v (.lit (fvO b))), (9, sv (p.1.1 : Nat))], hp := [(b, HO.cells [.sl (ePrs p.1.2)])] },
      fun p => p.1.2.length - p.1.1, ⟨(0, l0), Nat.zero_le _, hp0, hl0, hR.symm⟩, ⟨⟨rfl, rfl, rfl, rfl, trivial⟩, trivial, rfl⟩, ?_⟩
    rintro ⟨⟨a, L⟩, ha, hpL, hlL, hinv⟩
    simp only at ha hpL hlL hinv
    refine ⟨0, _, _, rfl, rfl, ?_⟩
    refine ⟨fun h => ?_, fun h => ?_⟩
    · have h : a < L.length := by have h : (a : Int) < ((ePrs L).length : Nat) := of_decide_eq_true h; simp [ePrs] at h; omega
      rw [smpE_at h] at hinv
      have hx := hpL _ (List.getElem_mem h)
      have hO := others_ok b L a h (by omega)
      have hB := by_ok m mm is (L.eraseIdx a) hm hsup hi (fun y hm => (hy y hm).win) (by rw [List.length_eraseIdx]; split <;> omega) (erase_plS hpL a).pl (L[a].ty.sz + 1) L[a] hx.1 (by omega) (by omega)
      have hn3 : (L.eraseIdx a).length - a < L.length - a := by rw [List.length_eraseIdx, if_pos h]; omega
      have hn4 : L.length - (a + 1) < L.length - a := by omega
      have hle : (L.eraseIdx a).length = L.length - 1 := by rw [List.length_eraseIdx, if_pos h]
      obtain ⟨ee, he1, he2, he3⟩ := errR (byE m is (L.eraseIdx a) (L[a].ty.sz + 1) L[a])
      rw [he3] at hB
      refine .inr (.inr (.inl ⟨[0], _, _, rfl, by decide, hO, ?_⟩))
      refine ⟨0, _, _, rfl, rfl, ?_⟩
      refine ⟨_, by omega, getPr h, rfl, ?_⟩
      refine .inl ⟨_, hB, ?_⟩
      refine ⟨by kernel_rfl, ?_⟩
      cases hb : (byE m is (L.eraseIdx a) (L[a].ty.sz + 1) L[a]).isSome with
      | true =>
        rw [if_pos hb] at hinv
        have he := he1 hb
        refine ⟨fun hbs => ?_, fun hbs => ?_⟩ <;> first | (exfalso; revert hbs; (simp [he]); done) | skip
        refine .inr (.inr (.inl ⟨[0], _, _, rfl, by decide, hO, ?_⟩))
        refine ⟨rfl, 0, _, rfl, Nat.le_of_ble_eq_true rfl, ?_⟩
        exact ⟨⟨(a, L.eraseIdx a), by show a ≤ (L.eraseIdx a).length; omega, erase_plS hpL a, by show (L.eraseIdx a).length ≤ _; omega, hinv⟩, hn3, ⟨rfl, rfl, rfl, rfl, trivial⟩, trivial, rfl⟩
      | false =>
        rw [if_neg (by simp [hb])] at hinv
        have he := he2 hb
        refine ⟨fun hbs => ?_, fun hbs => ?_⟩ <;> first | (exfalso; revert hbs; (simp [he]); done) | skip
        exact ⟨⟨(a + 1, L), h, hpL, hlL, hinv⟩, hn4, ⟨rfl, rfl, rfl, svc (wrap_succ (k := a) (by omega)), trivial⟩, trivial, rfl⟩
    · have h : a = L.length := by have h : ¬ (a : Int) < ((ePrs L).length : Nat) := of_decide_eq_false h; simp [ePrs] at h; omega
      subst h
      rw [Nat.sub_self, smpE] at hinv
      refine ⟨0, _, _, rfl, rfl, ?_⟩
      exact ⟨rfl, hinv.symm⟩
end
end Go.Proofs.YtkhnjmbgkakngaaGreatDoor

namespace Go.Proofs.YtkhnjmbgkakngaaGreatDoor
open Go Fp
set_option maxRecDepth 10000
set_option maxHeartbeats 8000000
set_option linter.unusedVariables false
set_option linter.unusedSimpArgs false

/-- What New tells, of a good world. -/
theorem newW_ok {cs : List Cl} {is : List In} (W : GoodW cs is) : ∃ (b : Bool) (e : AV) (q : Int × Int), CallsG Tryz.prog (fnv n_classes_New) [] [eProg cs is] [] (fun r o h => r = .tup [e, eAt q] ∧ o = 0 ∧ h = []) ∧ e = if b then eEnv cs.reverse (eM (mthAll cs cs.length)) is else .lit (.pointer none) := by
  have hN := newE_calls cs is W.nd (by have := W.few; omega) (fun c hc => by have := W.sup c hc; omega) (fun c hc => by have := W.mth c hc; omega) (by have := W.ins; omega)
  by_cases h0 : (leastR (refs cs.reverse cs is)).1 = 0
  · rw [if_pos h0] at hN
    exact ⟨true, _, _, hN, rfl⟩
  · rw [if_neg h0] at hN
    exact ⟨false, _, _, hN, rfl⟩
theorem hdR_get (o : Option (List PR)) : ∃ e : Int, hdR o = .tup [.sl (ePrs (o.getD [])), .lit (.int .i64 e)] := by
  cases o with
  | none => exact ⟨33, rfl⟩
  | some m => exact ⟨0, rfl⟩
theorem smp_len {m : List Cl} {is : List In} : ∀ (k : Nat) (l : List PR) (a : Nat), (smpE m is k l a).length ≤ l.length
  | 0, l, a => Nat.le_refl _
  | k + 1, l, a => by
    rw [smpE]
    split
    · split
      · have h1 := smp_len (m := m) (is := is) k (l.eraseIdx a) a
        have h2 : (l.eraseIdx a).length ≤ l.length := by rw [List.length_eraseIdx]; split <;> omega
        omega
      · exact smp_len k l (a + 1)
    · exact Nat.le_refl _
theorem entailHeads_ok {l0 l1 : List Int} (hl0 : l0.length < 9223372036854775808) (hr0 : ∀ x ∈ l0, InR x) (hl1 : l1.length < 9223372036854775808) (hr1 : ∀ x ∈ l1, InR x) :
    ACall Tryz.prog n_fuguelaw12_EntailHeads [.sl (eIs l0), .sl (eIs l1)] (.sb true) := by
  obtain ⟨cs, is, W, hW⟩ := world_good hl0 hr0
  obtain ⟨b, e, q, hN, he⟩ := newW_ok W
  have hP1 := preds_ok hl1 hr1 5 (by decide)
  have hg1 := prd_len 5 (l1.take 30)
  have hs1 := prd_plS hr1 5
  revert hP1 hg1 hs1
  generalize prd 5 (l1.take 30) = xs
  intro hP1 hg1 hs1
  refine acall_of_wsem ttok mixed Tryz.func4 rfl (by rfl) (Nat.le_of_ble_eq_true rfl) (by kernel_rfl) ?_
  refine Wsem.seq ttok mixed ?_
  refine Wsem.seq ttok mixed ?_
  refine .inl ⟨_, hW, ?_⟩
  refine Wsem.seq ttok mixed ?_
  refine .inr (.inr (.inr (.inr (.inr (.inl ⟨[], [], [], _, rfl, by decide, rfl, hN, ?_⟩)))))
  rintro r o h ⟨rfl, rfl, rfl⟩
  cases b with
  | false =>
    simp only [Bool.false_eq_true, if_false] at he
    subst he
    refine Wsem.cut { vs := [(6, .v (.lit (.pointer none)))] } ⟨⟨rfl, trivial⟩, trivial, rfl⟩ ?_
    refine Wsem.of ttok mixed ?_
    refine .inl ⟨_, lives_ok, ?_⟩
    exact rfl
  | true =>
    simp only [if_true] at he
    subst he
    have hfew := W.few
    have hins := W.ins
    have hrl : cs.reverse.length < 1000 := by rw [List.length_reverse]; omega
    have hrs : ∀ c ∈ cs.reverse, c.sup.length < 1000 := fun c hc => by have := W.sup c (List.mem_reverse.1 hc); omega
    have hrs' : ∀ c ∈ cs, c.sup.length < 1000 := fun c hc => by have := W.sup c hc; omega
    generalize eM (mthAll cs cs.length) = mm
    have hn30 : ∀ q ∈ xs, q.ty.sz < 30 := fun q hq => by have := (hs1 q hq).2.1; omega
    have hA := head_ok cs.reverse mm is (by omega) W.sml 30 xs hs1 hn30 (by omega)
    have hB := rhead_ok cs is (by omega) W.sml 30 xs hs1 hn30 (by omega)
    have hC := simple_ok cs.reverse mm is hrl hrs (by omega) W.sml 30 xs hs1 hn30 (by omega)
    have hD := rsimple_ok cs is W.nd (by omega) hrs' (by omega) W.sml 30 xs hs1 hn30 (by omega)
    have hlen : ∀ o, (catO (hdP is 30) xs).map (dd []) = some o → o.length ≤ 40000 := fun o ho => by
      obtain ⟨m1, h1, h2⟩ := Option.map_eq_some_iff.1 ho
      subst h2
      have := catO_len (B := 4096) (fun q hq m hm => by have := hdP_len W.sml 6 30 q m (hs1 q hq).2.2 hm; rwa [ps4] at this) h1
      have h3 := dd_len m1 []
      simp at h3; omega
    unfold simE at hC hD
    generalize (catO (hdP is 30) xs).map (dd []) = oc at hA hB hC hD hlen
    have hl1 : (oc.getD []).length ≤ 40000 := by
      cases oc with
      | none => simp
      | some o => exact hlen o rfl
    have hl2 : ((oc.map fun l => smpE cs.reverse is l.length l 0).getD []).length ≤ 40000 := by
      cases oc with
      | none => simp
      | some o =>
        have h1 := smp_len (m := cs.reverse) (is := is) o.length o 0
        have h2 := hlen o rfl
        simp only [Option.map_some, Option.getD_some]; omega
    generalize oc.map (fun l => smpE cs.reverse is l.length l 0) = os at hC hD hl2
    obtain ⟨e1, he1⟩ := hdR_get oc
    obtain ⟨e2, he2⟩ := hdR_get os
    rw [he1] at hA hB
    rw [he2] at hC hD
    generalize oc.getD [] = L1 at hA hB hl1
    generalize os.getD [] = L2 at hC hD hl2
    refine Wsem.cut { vs := [(1, .v (.sl (eIs l1))), (5, .box 0 (eProg cs is)), (6, .v (eEnv cs.reverse mm is))] } ⟨⟨rfl, rfl, rfl, trivial⟩, trivial, rfl⟩ ?_
    refine Wsem.of ttok mixed ?_
    refine .inl ⟨_, hP1, ?_⟩
    refine .inl ⟨_, hA, ?_⟩
    refine .inl ⟨_, hB, ?_⟩
    refine .inl ⟨_, hC, ?_⟩
    refine .inl ⟨_, hD, ?_⟩
    refine ⟨fun hbs => ?_, fun hbs => ?_⟩ <;> first | (exfalso; revert hbs; (simp); done) | skip
    refine ⟨fun hbs => ?_, fun hbs => ?_⟩ <;> first | (exfalso; revert hbs; (simp); done) | skip
    refine .inl ⟨_, rSameP_ok L1 (by omega), ?_⟩
    refine ⟨fun hbs => ?_, fun hbs => ?_⟩ <;> first | (exfalso; revert hbs; (simp); done) | skip
    refine .inl ⟨_, rSameP_ok L2 (by omega), ?_⟩
    refine ⟨fun hbs => ?_, fun hbs => ?_⟩ <;> first | (exfalso; revert hbs; (simp); done) | skip
    refine .inl ⟨_, lives_ok, ?_⟩
    exact rfl
end Go.Proofs.YtkhnjmbgkakngaaGreatDoor
