/- strings.Join of what stands for strings; the print of evidence. -/
import Derived.Test.YtkhnjmbgkakngaaGreatDoorI
import Derived.Test.YtkhnjmbgkakngaaGreatDoorX6
set_option linter.unusedSimpArgs false
set_option linter.unusedVariables false
namespace Go.Proofs.YtkhnjmbgkakngaaGreatDoor
open Go Fp Go.RowKit
set_option maxRecDepth 10000
set_option maxHeartbeats 4000000
set_option linter.unusedVariables false
set_option linter.unusedSimpArgs false

theorem lib_join (l : List ByteArray) : (⟨(Lib.join (l.map (·.data.toList)) cma.data.toList).toArray⟩ : ByteArray) = jn l := rfl
theorem join_ok (l : List ByteArray) (h : (jn l).size ≤ 140737488355328) (hl : l.length ≤ 140737488355328) : ACall Tryz.prog n_strings_Join [.sl (eSs l), .lit (.string cma)] (.lit (.string (jn l))) := by
  refine ⟨41, #[], #[], rfl, ⟨Tryz.f41, Tryz.func41, rfl, rfl⟩, fun F w vs hfr hh ha hy => ?_⟩
  have hlen := ha.len
  match vs, hlen with
  | [v, u], _ =>
    have hu := (ha.rep 1 u _ rfl rfl).lit_eq.1
    subst hu
    have hv := ha.rep 0 v _ rfl rfl
    have hyk : ykOf [v, Value.string cma] [] = [] := by cases v <;> rfl
    rw [hyk]
    have fin : ∀ (w' : World) (r : ByteArray), r = jn l → Below w.heap.size w w' → CallPost F (keys ([] : List (Nat × HO))) [] w (fun r' o h => r' = .lit (.string (jn l)) ∧ o = 0 ∧ h = []) (.returned (.string r)) w' := fun w' r hr hB => by
      subst hr
      exact ⟨_, _, 0, [], F, rfl, ⟨rfl, rfl, rfl⟩, .lit _ rfl, fun sz h => by omega, ⟨hB.os, hB.tape, hB.output, hB.size, fun b hb => .inr (.inr (hB.block b hb))⟩, fun b hb => .inl rfl, fun b hb => hfr b (Nat.le_trans hB.size hb), ⟨by simp [keys], fun b hb => by simp [keys] at hb, fun x hx => by simp at hx⟩, fun b hb => by simp [keys] at hb⟩
    have none : ∀ a c, l = [] → Calls Tryz.prog 41 #[.slice a 0 c, .string cma] w (CallPost F (keys ([] : List (Nat × HO))) [] w (fun r' o h => r' = .lit (.string (jn l)) ∧ o = 0 ∧ h = [])) := fun a c h0 => by
      refine (join_none a c cma w).mono fun e w' hp => ?_
      obtain ⟨rfl, rfl⟩ := hp
      exact fin w' _ (by subst h0; rfl) (Below.refl _ _)
    generalize hq : eSs l = q at hv
    have e0 : ∀ {v}, (#[] : Array Value) ++ [v, Value.string cma].toArray ++ #[] = #[v, .string cma] := by simp
    rw [e0]
    cases hv with
    | slNil => exact none _ _ (by simpa [eSs] using hq)
    | slZ a => exact none _ _ (by simpa [eSs] using hq)
    | sl b off n cap sz _ us hn hc hsz hcl hcell hrep =>
      subst hq
      have hnl : n = l.length := by rw [← hn]; simp [eSs]
      subst hnl
      cases l with
      | nil => exact none _ _ rfl
      | cons x r =>
        have hsz1 : sz = 1 := by
          have := hsz (.lit (.string x)) (by simp [eSs])
          simpa [AV.cells] using this.symm
        subst hsz1
        refine (join_calls b off cap (x :: r) cma w (fun j y hj => ?_) ?_ hl hc ?_).mono fun e w' hp => ?_
        · have hjl := (List.getElem?_eq_some_iff.1 hj).1
          have h1 := (hcell j (by omega)).1
          have h2 := hrep j (.lit (.string y)) 0 (.lit (.string y)) (by show ((x :: r).map _)[j]? = _; rw [List.getElem?_map, hj]; rfl) rfl
          rw [Nat.mul_one, Nat.add_zero] at h2
          rw [h1, h2.lit_eq.1]
        · have h1 := (hcell 0 (by simp)).1
          exact Nat.lt_of_not_le fun hle => by
            rw [World.cell?] at h1
            simp [Array.getElem?_eq_none hle] at h1
        · have e : (jn (x :: r)).size = (Lib.join ((x :: r).map (·.data.toList)) cma.data.toList).length := by
            rw [← lib_join, ByteArray.size, List.size_toArray]
          omega
        · obtain ⟨rfl, hB⟩ := hp
          exact fin w' _ (lib_join _) hB

theorem print_ok {v : Ev} (h : EvOk v) : ACall Tryz.prog n_entail_Print [eV v] (.lit (.string (prE v))) := by
  induction h with
  | @mk f n ks hn hl hj hk ih =>
    rw [prE_mk, Int.toNat_natCast]
    have hd2 := dcm_sz2 hn
    have hh := hdE_size (f := f) hn
    by_cases h1 : f = 1
    · refine acall_of_wcx ttok mixed Tryz.func12 rfl (by rfl) (Nat.le_of_ble_eq_true rfl) (by kernel_rfl) ?_
      refine .inl ⟨_, itoa_ok hn, ?_⟩
      refine ⟨fun hbs => ?_, fun hbs => ?_⟩ <;> first | (exfalso; revert hbs; (simp [fE, h1]); done) | skip
      rw [if_pos h1]
      refine ⟨by show 1 + (dcm n).size ≤ _; omega, ?_⟩
      exact rfl
    · rw [if_neg h1]
      have tail : ∀ c : ByteArray, c.size = 1 → Wsem Tryz.prog (sndC (sndC (sndC (sndC (sndC (bodyC Tryz.f12)))))) (mkC { vs := [(1, .box 0 (eV (.mk f (n : Nat) ks))), (3, .v (.lit (.string (dcm n)))), (4, .v (.lit (.string c)))] })
          (fun x => RetP tt Tryz.f12.results.toList (.lit (.string (c ++ dcm n ++ ⟨#[40]⟩ ++ jn (ks.map prE) ++ ⟨#[41]⟩))) (den x)) (fun _ _ => False) (fun x => RetP tt Tryz.f12.results.toList (.lit (.string (c ++ dcm n ++ ⟨#[40]⟩ ++ jn (ks.map prE) ++ ⟨#[41]⟩))) (den x)) := fun c hc => by
        refine Wsem.of ttok mixed ?_
        refine ⟨{k : Nat // k ≤ ks.length}, fun k => { vs := [(1, .box 0 (eV (.mk f (n : Nat) ks))), (3, .v (.lit (.string (dcm n)))), (4, .v (.lit (.string c))), (5, .v (.sl (eSs ((ks.take k.1).map prE)))), (20, .v (.sl (eEvs ks))), (21, sv (ks.length : Nat)), (22, sv (k.1 : Nat))], ow := [(5, 0, 2)] },
          fun k => ks.length - k.1, ⟨0, Nat.zero_le _⟩, ⟨⟨rfl, rfl, rfl, rfl, rfl, svc (by show ((eEvs ks).length : Int) = _; rw [eEvs_len]), rfl, trivial⟩, ⟨trivial, trivial⟩, rfl⟩, ?_⟩
        rintro ⟨k, hkl⟩
        refine ⟨fun h => ?_, fun h => ?_⟩
        · have h : k < ks.length := by have h : (k : Int) < (ks.length : Nat) := of_decide_eq_true h; omega
          refine ⟨_, by omega, getEv h, rfl, ?_⟩
          refine .inl ⟨_, ih _ (List.getElem_mem h), ?_⟩
          refine ⟨by show (eSs ((ks.take k).map prE)).length + 1 ≤ 4294967296; simp [eSs]; omega, uniS _, uni1 rfl, ?_⟩
          refine ⟨⟨k + 1, h⟩, (show ks.length - (k + 1) < ks.length - k by omega), ⟨rfl, rfl, rfl, ?_, rfl, rfl, svc (wrap_succ (k := k) (by omega)), trivial⟩, ⟨rfl, trivial⟩, rfl⟩
          show SV.v (.sl (eSs ((ks.take k).map prE) ++ [.lit (.string (prE ks[k]))])) = SV.v (.sl (eSs ((ks.take (k + 1)).map prE)))
          rw [List.take_succ_eq_append_getElem h, List.map_append]
          simp [eSs]
        · have h : k = ks.length := by have h : ¬ (k : Int) < (ks.length : Nat) := of_decide_eq_false h; omega
          subst h
          rw [List.take_length]
          refine ⟨by show c.size + (dcm n).size ≤ 4611686018427387904; omega, ?_⟩
          refine ⟨by show (c ++ dcm n).size + 1 ≤ 4611686018427387904; rw [ByteArray.size_append]; omega, ?_⟩
          refine .inl ⟨_, join_ok (ks.map prE) (by omega) (by simp; omega), ?_⟩
          refine ⟨by show (c ++ dcm n ++ ⟨#[40]⟩).size + (jn (ks.map prE)).size ≤ 4611686018427387904; rw [ByteArray.size_append, ByteArray.size_append]; show _ + _ + 1 + _ ≤ _; omega, ?_⟩
          refine ⟨by show (c ++ dcm n ++ ⟨#[40]⟩ ++ jn (ks.map prE)).size + 1 ≤ 4611686018427387904; rw [ByteArray.size_append, ByteArray.size_append, ByteArray.size_append]; show _ + _ + 1 + _ + 1 ≤ _; omega, ?_⟩
          exact rfl
      refine acall_of_wsem ttok mixed Tryz.func12 rfl (by rfl) (Nat.le_of_ble_eq_true rfl) (by kernel_rfl) ?_
      refine Wsem.seq ttok mixed ?_
      refine Wsem.seq ttok mixed ?_
      refine .inl ⟨_, itoa_ok hn, ?_⟩
      refine Wsem.seq ttok mixed ?_
      refine ⟨fun hbs => ?_, fun hbs => ?_⟩ <;> first | (exfalso; revert hbs; (simp [fE, h1]); done) | skip
      refine Wsem.seq ttok mixed ?_
      refine Wsem.seq ttok mixed ?_
      by_cases h2 : f = 2
      · refine ⟨fun hbs => ?_, fun hbs => ?_⟩ <;> first | (exfalso; revert hbs; (simp [fE, h2]); done) | skip
        rw [if_pos h2]
        refine Wsem.cut _ ?_ (tail ⟨#[115]⟩ rfl)
        exact ⟨⟨rfl, rfl, rfl, trivial⟩, trivial, rfl⟩
      · refine ⟨fun hbs => ?_, fun hbs => ?_⟩ <;> first | (exfalso; revert hbs; (simp [fE, h2]); done) | skip
        rw [if_neg h2]
        refine Wsem.cut _ ?_ (tail ⟨#[105]⟩ rfl)
        exact ⟨⟨rfl, rfl, rfl, trivial⟩, trivial, rfl⟩
end Go.Proofs.YtkhnjmbgkakngaaGreatDoor

namespace Go.Proofs.YtkhnjmbgkakngaaGreatDoor
open Go Fp
set_option maxRecDepth 10000
set_option maxHeartbeats 4000000
set_option linter.unusedVariables false
set_option linter.unusedSimpArgs false

theorem pick_ok {l : List Int} (hl : l.length < 1000000) (hr : ∀ x ∈ l, InR x) (k : Nat) : ∃ r : Nat, r < 9223372036854775808 ∧ ACall Tryz.prog n_fugueref11_pick [.sl (eIs l), .lit (.int .i64 (k : Nat))] (.lit (.int .i64 (r : Nat))) := by
  by_cases hk : k < l.length
  · have hx := hr l[k] (List.getElem_mem hk)
    have hx' := hx
    unfold InR at hx
    by_cases h0 : l[k] < 0
    · have e1 : IntKind.i64.wrap (l[k] + 1) = l[k] + 1 := wrap_in (by unfold InR; omega)
      have e2 : IntKind.i64.wrap (0 - (l[k] + 1)) = -(l[k] + 1) := by rw [wrap_in (by unfold InR; omega)]; omega
      refine ⟨(-(l[k] + 1)).toNat, by omega, ?_⟩
      refine acall_of_wcx ttok mixed Tryz.func53 rfl (by rfl) (Nat.le_of_ble_eq_true rfl) (by kernel_rfl) ?_
      refine ⟨fun hbs => ?_, fun hbs => ?_⟩ <;> first | (exfalso; revert hbs; (simp [eIs]; omega); done) | skip
      refine ⟨_, by omega, getI hk, rfl, ?_⟩
      refine ⟨fun hbs => ?_, fun hbs => ?_⟩ <;> first | (exfalso; revert hbs; (simp; omega); done) | skip
      refine ⟨_, by omega, getI hk, rfl, ?_⟩
      show AV.lit (.int .i64 (IntKind.i64.wrap (0 - IntKind.i64.wrap (l[k] + 1)))) = _
      rw [e1, e2, Int.toNat_of_nonneg (by omega)]
    · refine ⟨l[k].toNat, by omega, ?_⟩
      refine acall_of_wcx ttok mixed Tryz.func53 rfl (by rfl) (Nat.le_of_ble_eq_true rfl) (by kernel_rfl) ?_
      refine ⟨fun hbs => ?_, fun hbs => ?_⟩ <;> first | (exfalso; revert hbs; (simp [eIs]; omega); done) | skip
      refine ⟨_, by omega, getI hk, rfl, ?_⟩
      refine ⟨fun hbs => ?_, fun hbs => ?_⟩ <;> first | (exfalso; revert hbs; (simp; omega); done) | skip
      refine ⟨_, by omega, getI hk, rfl, ?_⟩
      show AV.lit (.int .i64 l[k]) = _
      rw [Int.toNat_of_nonneg (by omega)]
  · refine ⟨0, by omega, ?_⟩
    refine acall_of_wcx ttok mixed Tryz.func53 rfl (by rfl) (Nat.le_of_ble_eq_true rfl) (by kernel_rfl) ?_
    refine ⟨fun hbs => ?_, fun hbs => ?_⟩ <;> first | (exfalso; revert hbs; (simp [eIs]; omega); done) | skip
    exact rfl
theorem pick12_ok {l : List Int} (hl : l.length < 9223372036854775808) (hr : ∀ x ∈ l, InR x) (k : Nat) : ∃ r : Nat, r < 100000 ∧ ACall Tryz.prog n_fugueref12_pick [.sl (eIs l), .lit (.int .i64 (k : Nat))] (.lit (.int .i64 (r : Nat))) := by
  by_cases hk : k < l.length
  · obtain ⟨r, h1, h2⟩ := around_ok (hr l[k] (List.getElem_mem hk)) (m := 100000) (by decide) (by decide)
    refine ⟨r, by omega, ?_⟩
    refine acall_of_wcx ttok mixed Tryz.func22 rfl (by rfl) (Nat.le_of_ble_eq_true rfl) (by kernel_rfl) ?_
    refine ⟨fun hbs => ?_, fun hbs => ?_⟩ <;> first | (exfalso; revert hbs; (simp [eIs]; omega); done) | skip
    refine ⟨_, by omega, getI hk, rfl, ?_⟩
    refine .inl ⟨_, h2, ?_⟩
    exact rfl
  · refine ⟨0, by omega, ?_⟩
    refine acall_of_wcx ttok mixed Tryz.func22 rfl (by rfl) (Nat.le_of_ble_eq_true rfl) (by kernel_rfl) ?_
    refine ⟨fun hbs => ?_, fun hbs => ?_⟩ <;> first | (exfalso; revert hbs; (simp [eIs]; omega); done) | skip
    exact rfl

abbrev nms5 : List ByteArray := [⟨#[65]⟩, ⟨#[66]⟩, ⟨#[67]⟩, ⟨#[68]⟩, ⟨#[69]⟩]
abbrev cons3 : List ByteArray := [⟨#[73, 110, 116]⟩, ⟨#[66, 111, 111, 108]⟩, ⟨#[76]⟩]
theorem names_ok : ACall Tryz.prog n_fugueref11_Names [] (.tup [.sl (eSs nms5), .sl (eSs cons3)]) := by
  refine acall_of_wcx ttok mixed Tryz.func19 rfl (by rfl) (Nat.le_of_ble_eq_true rfl) (by kernel_rfl) ?_
  exact rfl
def varsOf (s : ByteArray) : List ByteArray := if s = ⟨#[76]⟩ then [⟨#[97]⟩] else if s = ⟨#[80]⟩ then [⟨#[97]⟩, ⟨#[98]⟩] else []
theorem vars_ok (s : ByteArray) : ACall Tryz.prog n_fugueref12_Vars [.lit (.string s)] (.sl (eSs (varsOf s))) := by
  unfold varsOf
  by_cases h1 : s = ⟨#[76]⟩
  · rw [if_pos h1]
    refine acall_of_wcx ttok mixed Tryz.func23 rfl (by rfl) (Nat.le_of_ble_eq_true rfl) (by kernel_rfl) ?_
    refine ⟨fun hbs => ?_, fun hbs => ?_⟩ <;> first | (exfalso; revert hbs; (simp [h1]); done) | skip
    exact rfl
  · rw [if_neg h1]
    by_cases h2 : s = ⟨#[80]⟩
    · rw [if_pos h2]
      refine acall_of_wcx ttok mixed Tryz.func23 rfl (by rfl) (Nat.le_of_ble_eq_true rfl) (by kernel_rfl) ?_
      refine ⟨fun hbs => ?_, fun hbs => ?_⟩ <;> first | (exfalso; revert hbs; (simp [h1]); done) | skip
      refine ⟨fun hbs => ?_, fun hbs => ?_⟩ <;> first | (exfalso; revert hbs; (simp [h2]); done) | skip
      exact rfl
    · rw [if_neg h2]
      refine acall_of_wcx ttok mixed Tryz.func23 rfl (by rfl) (Nat.le_of_ble_eq_true rfl) (by kernel_rfl) ?_
      refine ⟨fun hbs => ?_, fun hbs => ?_⟩ <;> first | (exfalso; revert hbs; (simp [h1]); done) | skip
      refine ⟨fun hbs => ?_, fun hbs => ?_⟩ <;> first | (exfalso; revert hbs; (simp [h2]); done) | skip
      exact rfl

theorem in_ok (l : List ByteArray) (hl : l.length < 1000000) (s : ByteArray) : ACall Tryz.prog n_fugueref11_In [.sl (eSs l), .lit (.string s)] (.sb (memb s l)) := by
  generalize hR : memb s l = R
  refine acall_of_wcx ttok mixed Tryz.func82 rfl (by rfl) (Nat.le_of_ble_eq_true rfl) (by kernel_rfl) ?_
  refine ⟨{k : Nat // k ≤ l.length ∧ R = memb s (l.drop k)}, fun k => { vs := [(0, .v (.sl (eSs l))), (1, .v (.lit (.string s))), (5, sv (k.1 : Nat))] },
    fun k => l.length - k.1, ⟨0, Nat.zero_le _, hR.symm⟩, ⟨⟨rfl, rfl, rfl, trivial⟩, trivial, rfl⟩, ?_⟩
  rintro ⟨k, hk, hinv⟩
  refine ⟨fun h => ?_, fun h => ?_⟩
  · have h : k < l.length := by have h : (k : Int) < ((eSs l).length : Nat) := of_decide_eq_true h; simp [eSs] at h; omega
    rw [List.drop_eq_getElem_cons h] at hinv
    refine ⟨_, by omega, getS h, rfl, ?_⟩
    by_cases hs : l[k] = s
    · refine ⟨fun hbs => ?_, fun hbs => ?_⟩ <;> first | (exfalso; revert hbs; (simp [hs]); done) | skip
      have : R = true := by rw [hinv, memb_iff]; simp [hs]
      subst this
      exact rfl
    · refine ⟨fun hbs => ?_, fun hbs => ?_⟩ <;> first | (exfalso; revert hbs; (simp [hs]); done) | skip
      refine ⟨⟨k + 1, h, ?_⟩, (show l.length - (k + 1) < l.length - k by omega), ⟨rfl, rfl, svc (wrap_succ (k := k) (by omega)), trivial⟩, trivial, rfl⟩
      rw [hinv, Bool.eq_iff_iff, memb_iff, memb_iff, List.mem_cons]
      exact ⟨fun h => h.resolve_left (Ne.symm hs), .inr⟩
  · have h : k = l.length := by have h : ¬ (k : Int) < ((eSs l).length : Nat) := of_decide_eq_false h; simp [eSs] at h; omega
    subst h
    rw [List.drop_length] at hinv
    have : R = false := by rw [hinv, ← Bool.not_eq_true, memb_iff]; simp
    subst this
    exact rfl

/-- No more is told than there are classes. -/
def FewU (cs : List Cl) (l : List ByteArray) : Prop := unseen cs l + l.length ≤ cs.length
def abv (cs : List Cl) : Nat → ByteArray → List ByteArray → List ByteArray
  | 0, _, told => told
  | n + 1, s, told => if (!exC cs s || memb s told) = true then told else (sups cs s).foldl (fun t x => abv cs n x t) (told ++ [s])
theorem foldl_few {cs : List Cl} {F : List ByteArray → ByteArray → List ByteArray} (hF : ∀ t x, FewU cs t → FewU cs (F t x)) : ∀ (l : List ByteArray) (t : List ByteArray), FewU cs t → FewU cs (l.foldl F t)
  | [], t, h => h
  | x :: l, t, h => foldl_few hF l _ (hF t x h)
theorem abv_few (cs : List Cl) : ∀ (n : Nat) (s : ByteArray) (told : List ByteArray), FewU cs told → FewU cs (abv cs n s told)
  | 0, s, told, h => h
  | n + 1, s, told, h => by
    rw [abv]
    split
    · exact h
    · rename_i hc
      simp only [Bool.or_eq_true, Bool.not_eq_true', not_or, Bool.not_eq_false] at hc
      refine foldl_few (fun t x ht => abv_few cs n x t ht) _ _ ?_
      have := unseen_lt (m := cs) (sn := told) hc.1 (fun hm => hc.2 (memb_iff.2 hm))
      unfold FewU at h ⊢
      rw [List.length_append]; simp; omega
theorem few_lt {cs : List Cl} {l : List ByteArray} (h : FewU cs l) : l.length ≤ cs.length := by unfold FewU at h; omega
theorem above0_ok (cs : List Cl) (is : List In) (hc : cs.length < 1000) (hsup : ∀ c ∈ cs, c.sup.length < 1000) : ∀ (n : Nat), n < 100000 → ∀ (s : ByteArray) (told : List ByteArray), FewU cs told →
    ACall Tryz.prog n_fugueref11_above [eProg cs is, .lit (.string s), .sl (eSs told), .lit (.int .i64 (n : Nat))] (.sl (eSs (abv cs n s told))) := by
  intro n
  induction n with
  | zero =>
    intro _ s told hU
    have hlen := few_lt hU
    rw [abv]
    refine acall_of_wcx ttok mixed Tryz.func56 rfl (by rfl) (Nat.le_of_ble_eq_true rfl) (by kernel_rfl) ?_
    refine .inl ⟨_, class_ok cs is (by omega) s, ?_⟩
    refine .inl ⟨_, in_ok told (by omega) s, ?_⟩
    refine ⟨fun h => ?_, fun h => ?_⟩
    · refine ⟨fun h => ?_, fun h => ?_⟩
      · refine ⟨fun hbs => ?_, fun hbs => ?_⟩ <;> first | (exfalso; revert hbs; (simp); done) | skip
        exact rfl
      · exact rfl
    · exact rfl
  | succ n ih =>
    intro hn s told hU
    have hlen := few_lt hU
    have hC := class_ok cs is (by omega) s
    have hS := lookC_lt hsup s
    have hFU : (lookC cs s).isSome = true → memb s told = false → FewU cs (told ++ [s]) := fun h1 h2 => by
      have := unseen_lt (m := cs) (sn := told) h1 (fun hm => by rw [memb_iff.2 hm] at h2; cases h2)
      unfold FewU at hU ⊢
      rw [List.length_append]; simp; omega
    have hFew := abv_few cs (n + 1) s told hU
    rw [abv, sups_get, exC] at hFew ⊢
    revert hC hS hFew hFU
    generalize (lookC cs s).getD zCl = c
    generalize (lookC cs s).isSome = b
    intro hC hS hFU hFew
    generalize hR : (if (!b || memb s told) = true then told else c.sup.foldl (fun t x => abv cs n x t) (told ++ [s])) = R at hFew
    refine acall_of_wcx ttok mixed Tryz.func56 rfl (by rfl) (Nat.le_of_ble_eq_true rfl) (by kernel_rfl) ?_
    refine .inl ⟨_, hC, ?_⟩
    refine .inl ⟨_, in_ok told (by omega) s, ?_⟩
    cases b with
    | false =>
      simp at hR
      subst hR
      refine ⟨fun hbs => ?_, fun hbs => ?_⟩ <;> first | (exfalso; revert hbs; (simp); done) | skip
      exact rfl
    | true =>
      refine ⟨fun hbs => ?_, fun hbs => ?_⟩ <;> first | (exfalso; revert hbs; (simp); done) | skip
      cases hm : memb s told with
      | true =>
        simp [hm] at hR
        subst hR
        refine ⟨fun hbs => ?_, fun hbs => ?_⟩ <;> first | (exfalso; revert hbs; (simp); done) | skip
        exact rfl
      | false =>
        simp [hm] at hR
        refine ⟨fun hbs => ?_, fun hbs => ?_⟩ <;> first | (exfalso; revert hbs; (simp); done) | skip
        refine ⟨fun hbs => ?_, fun hbs => ?_⟩ <;> first | (exfalso; revert hbs; (intro h; have h := of_decide_eq_true h; omega); done) | skip
        have hF0 := hFU rfl hm
        have hl0 := few_lt hF0
        have hFk : ∀ k, FewU cs ((c.sup.take k).foldl (fun t x => abv cs n x t) (told ++ [s])) := fun k => foldl_few (fun t x ht => abv_few cs n x t ht) _ _ hF0
        refine ⟨by show 0 + (eSs told).length ≤ 4294967296; simp [eSs]; omega, uni0 _, uniS _, ?_⟩
        refine ⟨by show (([] : List AV) ++ eSs told).length + 1 ≤ 4294967296; simp [eSs]; omega, by rw [List.nil_append]; exact uniS _, uni1 rfl, ?_⟩
        refine ⟨{k : Nat // k ≤ c.sup.length}, fun k => { vs := [(1, .v (.lit (.string s))), (2, .v (.sl (eSs ((c.sup.take k.1).foldl (fun t x => abv cs n x t) (told ++ [s]))))), (3, sv ((n + 1 : Nat) : Int)), (4, .box 0 (eProg cs is)), (9, .box 0 (eCl c)), (12, sv (k.1 : Nat))] },
          fun k => c.sup.length - k.1, ⟨0, Nat.zero_le _⟩, ⟨⟨rfl, by show SV.v (.sl (([] : List AV) ++ eSs told ++ [.lit (.string s)])) = SV.v (.sl (eSs (told ++ [s]))); simp [eSs], rfl, rfl, rfl, rfl, trivial⟩, trivial, rfl⟩, ?_⟩
        rintro ⟨k, hk⟩
        refine ⟨fun h => ?_, fun h => ?_⟩
        · have h : k < c.sup.length := by have h : (k : Int) < ((eSs c.sup).length : Nat) := of_decide_eq_true h; simp [eSs] at h; omega
          refine ⟨_, by omega, getS h, rfl, ?_⟩
          have hI := ih (by omega) c.sup[k] _ (hFk k)
          rw [← wrap_pred (n := n) (by omega)] at hI
          refine .inl ⟨_, hI, ?_⟩
          refine ⟨by kernel_rfl, ?_⟩
          refine ⟨⟨k + 1, h⟩, (show c.sup.length - (k + 1) < c.sup.length - k by omega), ⟨rfl, ?_, rfl, rfl, rfl, svc (wrap_succ (k := k) (by omega)), trivial⟩, trivial, rfl⟩
          show SV.v (.sl (eSs (abv cs n c.sup[k] ((c.sup.take k).foldl (fun t x => abv cs n x t) (told ++ [s]))))) = SV.v (.sl (eSs ((c.sup.take (k + 1)).foldl (fun t x => abv cs n x t) (told ++ [s]))))
          rw [List.take_succ_eq_append_getElem h, List.foldl_append]
          rfl
        · have h : k = c.sup.length := by have h : ¬ (k : Int) < ((eSs c.sup).length : Nat) := of_decide_eq_false h; simp [eSs] at h; omega
          subst h
          rw [← hR, List.take_length]
          exact rfl
theorem above_ok' (cs : List Cl) (is : List In) (hc : cs.length < 1000) (hsup : ∀ c ∈ cs, c.sup.length < 1000) (s : ByteArray) : ACall Tryz.prog n_fugueref11_Above [eProg cs is, .lit (.string s)] (.sl (eSs (abv cs (cs.length + 1) s []))) := by
  refine acall_of_wcx ttok mixed Tryz.func24 rfl (by rfl) (Nat.le_of_ble_eq_true rfl) (by kernel_rfl) ?_
  have hA := above0_ok cs is hc hsup (cs.length + 1) (by omega) s [] (by unfold FewU unseen; simp; exact List.length_filter_le _ _)
  have e : IntKind.i64.wrap (((eCls cs).length : Int) + 1) = ((cs.length + 1 : Nat) : Int) := by rw [show (eCls cs).length = cs.length by simp [eCls]]; exact wrap_succ (by omega)
  rw [← e] at hA
  refine .inl ⟨_, hA, ?_⟩
  exact rfl
end Go.Proofs.YtkhnjmbgkakngaaGreatDoor

namespace Go.Proofs.YtkhnjmbgkakngaaGreatDoor
open Go Fp
set_option maxRecDepth 10000
set_option maxHeartbeats 4000000
set_option linter.unusedVariables false
set_option linter.unusedSimpArgs false

def hgt : Tp → Nat
  | .app a b => max (hgt a) (hgt b) + 1
  | _ => 0
/-- A type of a small world, nested so deep at most. -/
structure Sml (n : Nat) (t : Tp) : Prop where
  na : nA t
  sz : t.sz + 3 ≤ 4 * 2 ^ n
  hb : hgt t ≤ 2 * n
abbrev sInt : ByteArray := ⟨#[73, 110, 116]⟩
abbrev sBool : ByteArray := ⟨#[66, 111, 111, 108]⟩
abbrev sL : ByteArray := ⟨#[76]⟩
abbrev sP : ByteArray := ⟨#[80]⟩
theorem Sml.leaf {n : Nat} {t : Tp} (h : t.sz = 1) (h2 : nA t) (h3 : hgt t = 0) : Sml n t := ⟨h2, by have := Nat.one_le_two_pow (n := n); omega, by omega⟩
theorem Sml.one {n : Nat} {c t : Tp} (hc : c.sz = 1) (h2 : nA c) (h3 : hgt c = 0) (h : Sml n t) : Sml (n + 1) (.app c t) := by
  refine ⟨⟨h2, h.na⟩, ?_, ?_⟩
  · have := h.sz; have := Nat.one_le_two_pow (n := n); simp only [Tp.sz, Nat.pow_succ]; omega
  · have := h.hb; show max (hgt c) (hgt t) + 1 ≤ _; omega
theorem Sml.two {n : Nat} {c t u : Tp} (hc : c.sz = 1) (h2 : nA c) (h3 : hgt c = 0) (h : Sml n t) (h' : Sml n u) : Sml (n + 1) (.app (.app c t) u) := by
  refine ⟨⟨⟨h2, h.na⟩, h'.na⟩, ?_, ?_⟩
  · have := h.sz; have := h'.sz; have := Nat.one_le_two_pow (n := n); simp only [Tp.sz, Nat.pow_succ]; omega
  · have := h.hb; have := h'.hb; show max (max (hgt c) (hgt t) + 1) (hgt u) + 1 ≤ _; omega

theorem q9 {r : Nat} (hr : r < 100000) : IntKind.i64.wrap ((r : Int).tdiv 9) = ((r / 9 : Nat) : Int) := by rw [show ((r : Int).tdiv 9) = ((r / 9 : Nat) : Int) by simp]; exact wrap_nat (by omega)

/-- What is left over. -/
theorem typ_pre {l : List Int} (hl : l.length < 1000000) (hr : ∀ x ∈ l, InR x) (d : Nat) (hd : d ≤ 4) : ∃ r k : Nat, r < 100000 ∧ k < 9 ∧ (3 < d → k < 4) ∧ ∀ R : AV,
    Wsem Tryz.prog (sndC (sndC (sndC (sndC (sndC (bodyC Tryz.f33)))))) (mkC { vs := [(0, .v (.sl (eIs (l.drop 1)))), (1, sv (d : Nat)), (4, .box 0 (eTy .no)), (6, sv (r : Nat)), (7, sv (k : Nat))] }) (fun c => RetP tt Tryz.f33.results.toList R (den c)) (fun _ _ => False) (fun c => RetP tt Tryz.f33.results.toList R (den c)) →
    ACall Tryz.prog n_fugueref12_typ [.sl (eIs l), .lit (.int .i64 (d : Nat))] R := by
  obtain ⟨r, hr1, hp⟩ := pick12_ok (by omega) hr 0
  have body : ∀ (k : Nat), k = (if 3 < d then r % 4 else r % 9) → ∀ R : AV, Wsem Tryz.prog (sndC (sndC (sndC (sndC (sndC (bodyC Tryz.f33)))))) (mkC { vs := [(0, .v (.sl (eIs (l.drop 1)))), (1, sv (d : Nat)), (4, .box 0 (eTy .no)), (6, sv (r : Nat)), (7, sv (k : Nat))] }) (fun c => RetP tt Tryz.f33.results.toList R (den c)) (fun _ _ => False) (fun c => RetP tt Tryz.f33.results.toList R (den c)) →
    ACall Tryz.prog n_fugueref12_typ [.sl (eIs l), .lit (.int .i64 (d : Nat))] R := fun k hk R tail => by
    have tail2 : Wsem Tryz.prog (sndC (sndC (sndC (bodyC Tryz.f33)))) (mkC { vs := [(0, .v (.sl (eIs (l.drop 1)))), (1, sv (d : Nat)), (4, .box 0 (eTy .no)), (6, sv (r : Nat))] }) (fun c => RetP tt Tryz.f33.results.toList R (den c)) (fun _ _ => False) (fun c => RetP tt Tryz.f33.results.toList R (den c)) := by
      refine Wsem.seq ttok mixed ?_
      refine ⟨by decide, ?_⟩
      refine Wsem.seq ttok mixed ?_
      by_cases hd : 3 < d
      · refine ⟨fun hbs => ?_, fun hbs => ?_⟩ <;> first | (exfalso; revert hbs; (simp; omega); done) | skip
        refine ⟨by decide, ?_⟩
        refine Wsem.cut _ ?_ tail
        exact ⟨⟨rfl, rfl, rfl, rfl, svc (by rw [hk, if_pos hd]; rfl), trivial⟩, trivial, rfl⟩
      · refine ⟨fun hbs => ?_, fun hbs => ?_⟩ <;> first | (exfalso; revert hbs; (simp; omega); done) | skip
        refine Wsem.cut _ ?_ tail
        exact ⟨⟨rfl, rfl, rfl, rfl, svc (by rw [hk, if_neg hd]; rfl), trivial⟩, trivial, rfl⟩
    refine acall_of_wsem ttok mixed Tryz.func33 rfl (by rfl) (Nat.le_of_ble_eq_true rfl) (by kernel_rfl) ?_
    refine Wsem.seq ttok mixed ?_
    refine Wsem.seq ttok mixed ?_
    refine .inl ⟨_, hp, ?_⟩
    refine Wsem.seq ttok mixed ?_
    refine ⟨fun h => ?_, fun h => ?_⟩
    · have h : 0 < l.length := by have h : (0 : Int) < ((eIs l).length : Nat) := of_decide_eq_true h; simp [eIs] at h; exact h
      refine ⟨by decide, by show (1 : Int) ≤ ((eIs l).length : Nat); simp [eIs]; omega, by omega, .inr (uniI _), ?_⟩
      refine Wsem.cut _ ?_ tail2
      refine ⟨⟨?_, rfl, rfl, rfl, trivial⟩, trivial, rfl⟩
      show SV.v (.sl (((eIs l).take ((eIs l).length : Int).toNat).drop (1 : Int).toNat)) = SV.v (.sl (eIs (l.drop 1)))
      rw [show ((eIs l).length : Int).toNat = (eIs l).length from rfl, List.take_length]
      simp [eIs]
    · have h : l = [] := by have h : ¬ (0 : Int) < ((eIs l).length : Nat) := of_decide_eq_false h; simp [eIs] at h; exact h
      subst h
      refine Wsem.cut _ ?_ tail2
      exact ⟨⟨rfl, rfl, rfl, rfl, trivial⟩, trivial, rfl⟩
  exact ⟨r, _, hr1, by split <;> omega, fun h => by rw [if_pos h]; omega, body _ rfl⟩

abbrev TypW (m : List Int) (d r k : Nat) (R : AV) : Prop := Wsem Tryz.prog (sndC (sndC (sndC (sndC (sndC (bodyC Tryz.f33)))))) (mkC { vs := [(0, .v (.sl (eIs m))), (1, sv (d : Nat)), (4, .box 0 (eTy .no)), (6, sv (r : Nat)), (7, sv (k : Nat))] }) (fun c => RetP tt Tryz.f33.results.toList R (den c)) (fun _ _ => False) (fun c => RetP tt Tryz.f33.results.toList R (den c))
theorem typ_leaf (m : List Int) (d : Nat) {r k : Nat} (hr1 : r < 100000) (hk : k ≤ 4) : ∃ t, (∀ n, Sml n t) ∧ TypW m d r k (.tup [eTy t, .sl (eIs m)]) := by
  have e9 := q9 hr1
  have hN := name_nn (n := r / 9 % 3) (by omega)
  rw [show ((r / 9 % 3 : Nat) : Int) = Int.tmod (IntKind.i64.wrap ((r : Int).tdiv 9)) 3 by rw [e9]; rfl] at hN
  match k, hk with
  | 0, _ =>
    refine ⟨.var (small4.getD (r / 9 % 3 % 4) .empty), fun n => .leaf rfl trivial rfl, Wsem.of ttok mixed ?_⟩
    refine ⟨fun hbs => ?_, fun hbs => ?_⟩ <;> first | (exfalso; revert hbs; (simp); done) | skip
    refine ⟨by decide, by decide, ?_⟩
    refine .inl ⟨_, hN, ?_⟩
    exact rfl
  | 1, _ =>
    refine ⟨.con sInt, fun n => .leaf rfl trivial rfl, Wsem.of ttok mixed ?_⟩
    refine ⟨fun hbs => ?_, fun hbs => ?_⟩ <;> first | (exfalso; revert hbs; (simp); done) | skip
    refine ⟨fun hbs => ?_, fun hbs => ?_⟩ <;> first | (exfalso; revert hbs; (simp); done) | skip
    refine ⟨fun hbs => ?_, fun hbs => ?_⟩ <;> first | (exfalso; revert hbs; (simp); done) | skip
    exact rfl
  | 2, _ =>
    refine ⟨.con sBool, fun n => .leaf rfl trivial rfl, Wsem.of ttok mixed ?_⟩
    refine ⟨fun hbs => ?_, fun hbs => ?_⟩ <;> first | (exfalso; revert hbs; (simp); done) | skip
    refine ⟨fun hbs => ?_, fun hbs => ?_⟩ <;> first | (exfalso; revert hbs; (simp); done) | skip
    refine ⟨fun hbs => ?_, fun hbs => ?_⟩ <;> first | (exfalso; revert hbs; (simp); done) | skip
    refine ⟨fun hbs => ?_, fun hbs => ?_⟩ <;> first | (exfalso; revert hbs; (simp); done) | skip
    exact rfl
  | 3, _ =>
    refine ⟨.mt (1 + r / 9 % 2 : Nat), fun n => .leaf rfl trivial rfl, Wsem.of ttok mixed ?_⟩
    refine ⟨fun hbs => ?_, fun hbs => ?_⟩ <;> first | (exfalso; revert hbs; (simp); done) | skip
    refine ⟨fun hbs => ?_, fun hbs => ?_⟩ <;> first | (exfalso; revert hbs; (simp); done) | skip
    refine ⟨fun hbs => ?_, fun hbs => ?_⟩ <;> first | (exfalso; revert hbs; (simp); done) | skip
    refine ⟨fun hbs => ?_, fun hbs => ?_⟩ <;> first | (exfalso; revert hbs; (simp); done) | skip
    refine ⟨fun hbs => ?_, fun hbs => ?_⟩ <;> first | (exfalso; revert hbs; (simp); done) | skip
    refine ⟨by decide, by decide, ?_⟩
    have e : IntKind.i64.wrap (1 + Int.tmod (IntKind.i64.wrap ((r : Int).tdiv 9)) 2) = ((1 + r / 9 % 2 : Nat) : Int) := by
      rw [e9, show Int.tmod ((r / 9 : Nat) : Int) 2 = ((r / 9 % 2 : Nat) : Int) from rfl, show (1 : Int) + ((r / 9 % 2 : Nat) : Int) = ((1 + r / 9 % 2 : Nat) : Int) by omega]
      exact wrap_nat (by omega)
    rw [← e]
    exact rfl
  | 4, _ =>
    refine ⟨.var (small4.getD (r / 9 % 3 % 4) .empty), fun n => .leaf rfl trivial rfl, Wsem.of ttok mixed ?_⟩
    refine ⟨fun hbs => ?_, fun hbs => ?_⟩ <;> first | (exfalso; revert hbs; (simp); done) | skip
    refine ⟨fun hbs => ?_, fun hbs => ?_⟩ <;> first | (exfalso; revert hbs; (simp); done) | skip
    refine ⟨by decide, by decide, ?_⟩
    refine .inl ⟨_, hN, ?_⟩
    exact rfl
theorem typ_ok : ∀ (n d : Nat), d + n = 4 → ∀ (l : List Int), l.length < 1000000 → (∀ x ∈ l, InR x) → ∃ t j, Sml n t ∧ ACall Tryz.prog n_fugueref12_typ [.sl (eIs l), .lit (.int .i64 (d : Nat))] (.tup [eTy t, .sl (eIs (l.drop (j + 1)))]) := by
  intro n
  induction n with
  | zero =>
    intro d hdn l hl hr
    obtain ⟨r, k, hr1, hk, hk2, pre⟩ := typ_pre hl hr d (by omega)
    have hk4 := hk2 (by omega)
    obtain ⟨t, h1, h2⟩ := typ_leaf (l.drop 1) d hr1 (k := k) (by omega)
    exact ⟨t, 0, h1 0, pre _ h2⟩
  | succ n ih =>
    intro d hdn l hl hr
    obtain ⟨r, k, hr1, hk, hk2, pre⟩ := typ_pre hl hr d (by omega)
    by_cases hk4 : k ≤ 4
    · obtain ⟨t, h1, h2⟩ := typ_leaf (l.drop 1) d hr1 hk4
      exact ⟨t, 0, h1 _, pre _ h2⟩
    have e1 : ((d + 1 : Nat) : Int) = IntKind.i64.wrap ((d : Int) + 1) := (wrap_succ (by omega)).symm
    have hdrop : ∀ m : Nat, (l.drop m).length < 1000000 ∧ ∀ x ∈ l.drop m, InR x := fun m => ⟨by rw [List.length_drop]; omega, fun x hx => hr x (List.mem_of_mem_drop hx)⟩
    obtain ⟨t, j, ht, hT⟩ := ih (d + 1) (by omega) (l.drop 1) (hdrop 1).1 (hdrop 1).2
    rw [List.drop_drop, e1] at hT
    have e9 := q9 hr1
    match k, hk, hk4 with
    | 5, _, _ =>
      refine ⟨.app (.con sL) t, 1 + j, .one rfl trivial rfl ht, pre _ (Wsem.of ttok mixed ?_)⟩
      refine ⟨fun hbs => ?_, fun hbs => ?_⟩ <;> first | (exfalso; revert hbs; (simp); done) | skip
      refine ⟨fun hbs => ?_, fun hbs => ?_⟩ <;> first | (exfalso; revert hbs; (simp); done) | skip
      refine ⟨fun hbs => ?_, fun hbs => ?_⟩ <;> first | (exfalso; revert hbs; (simp); done) | skip
      refine ⟨fun hbs => ?_, fun hbs => ?_⟩ <;> first | (exfalso; revert hbs; (simp); done) | skip
      refine ⟨fun hbs => ?_, fun hbs => ?_⟩ <;> first | (exfalso; revert hbs; (simp); done) | skip
      refine ⟨fun hbs => ?_, fun hbs => ?_⟩ <;> first | (exfalso; revert hbs; (simp); done) | skip
      refine .inl ⟨_, hT, ?_⟩
      exact rfl
    | 6, _, _ =>
      refine ⟨.app (.con sL) t, 1 + j, .one rfl trivial rfl ht, pre _ (Wsem.of ttok mixed ?_)⟩
      refine ⟨fun hbs => ?_, fun hbs => ?_⟩ <;> first | (exfalso; revert hbs; (simp); done) | skip
      refine ⟨fun hbs => ?_, fun hbs => ?_⟩ <;> first | (exfalso; revert hbs; (simp); done) | skip
      refine ⟨fun hbs => ?_, fun hbs => ?_⟩ <;> first | (exfalso; revert hbs; (simp); done) | skip
      refine ⟨fun hbs => ?_, fun hbs => ?_⟩ <;> first | (exfalso; revert hbs; (simp); done) | skip
      refine ⟨fun hbs => ?_, fun hbs => ?_⟩ <;> first | (exfalso; revert hbs; (simp); done) | skip
      refine ⟨fun hbs => ?_, fun hbs => ?_⟩ <;> first | (exfalso; revert hbs; (simp); done) | skip
      refine ⟨fun hbs => ?_, fun hbs => ?_⟩ <;> first | (exfalso; revert hbs; (simp); done) | skip
      refine .inl ⟨_, hT, ?_⟩
      exact rfl
    | 7, _, _ =>
      obtain ⟨u, i, hu, hU⟩ := ih (d + 1) (by omega) (l.drop (1 + (j + 1))) (hdrop _).1 (hdrop _).2
      rw [List.drop_drop, e1] at hU
      refine ⟨.app (.app (.con sP) t) u, 1 + (j + 1) + i, .two rfl trivial rfl ht hu, pre _ (Wsem.of ttok mixed ?_)⟩
      refine ⟨fun hbs => ?_, fun hbs => ?_⟩ <;> first | (exfalso; revert hbs; (simp); done) | skip
      refine ⟨fun hbs => ?_, fun hbs => ?_⟩ <;> first | (exfalso; revert hbs; (simp); done) | skip
      refine ⟨fun hbs => ?_, fun hbs => ?_⟩ <;> first | (exfalso; revert hbs; (simp); done) | skip
      refine ⟨fun hbs => ?_, fun hbs => ?_⟩ <;> first | (exfalso; revert hbs; (simp); done) | skip
      refine ⟨fun hbs => ?_, fun hbs => ?_⟩ <;> first | (exfalso; revert hbs; (simp); done) | skip
      refine ⟨fun hbs => ?_, fun hbs => ?_⟩ <;> first | (exfalso; revert hbs; (simp); done) | skip
      refine ⟨fun hbs => ?_, fun hbs => ?_⟩ <;> first | (exfalso; revert hbs; (simp); done) | skip
      refine ⟨fun hbs => ?_, fun hbs => ?_⟩ <;> first | (exfalso; revert hbs; (simp); done) | skip
      refine .inl ⟨_, hT, ?_⟩
      refine .inl ⟨_, hU, ?_⟩
      exact rfl
    | 8, _, _ =>
      by_cases h0 : r / 9 % 3 = 0
      · refine ⟨.app (.con sInt) t, 1 + j, .one rfl trivial rfl ht, pre _ (Wsem.of ttok mixed ?_)⟩
        refine ⟨fun hbs => ?_, fun hbs => ?_⟩ <;> first | (exfalso; revert hbs; (simp); done) | skip
        refine ⟨fun hbs => ?_, fun hbs => ?_⟩ <;> first | (exfalso; revert hbs; (simp); done) | skip
        refine ⟨fun hbs => ?_, fun hbs => ?_⟩ <;> first | (exfalso; revert hbs; (simp); done) | skip
        refine ⟨fun hbs => ?_, fun hbs => ?_⟩ <;> first | (exfalso; revert hbs; (simp); done) | skip
        refine ⟨fun hbs => ?_, fun hbs => ?_⟩ <;> first | (exfalso; revert hbs; (simp); done) | skip
        refine ⟨fun hbs => ?_, fun hbs => ?_⟩ <;> first | (exfalso; revert hbs; (simp); done) | skip
        refine ⟨fun hbs => ?_, fun hbs => ?_⟩ <;> first | (exfalso; revert hbs; (simp); done) | skip
        refine ⟨fun hbs => ?_, fun hbs => ?_⟩ <;> first | (exfalso; revert hbs; (simp); done) | skip
        refine ⟨by decide, by decide, ?_⟩
        refine ⟨fun h => ?_, fun h => ?_⟩
        · refine .inl ⟨_, hT, ?_⟩
          exact rfl
        · exfalso
          have h : ¬ Int.tmod (IntKind.i64.wrap ((r : Int).tdiv 9)) 3 = 0 := of_decide_eq_false h
          rw [e9] at h
          have : Int.tmod ((r / 9 : Nat) : Int) 3 = ((r / 9 % 3 : Nat) : Int) := rfl
          omega
      · refine ⟨.app (.var ⟨#[102]⟩) t, 1 + j, .one rfl trivial rfl ht, pre _ (Wsem.of ttok mixed ?_)⟩
        refine ⟨fun hbs => ?_, fun hbs => ?_⟩ <;> first | (exfalso; revert hbs; (simp); done) | skip
        refine ⟨fun hbs => ?_, fun hbs => ?_⟩ <;> first | (exfalso; revert hbs; (simp); done) | skip
        refine ⟨fun hbs => ?_, fun hbs => ?_⟩ <;> first | (exfalso; revert hbs; (simp); done) | skip
        refine ⟨fun hbs => ?_, fun hbs => ?_⟩ <;> first | (exfalso; revert hbs; (simp); done) | skip
        refine ⟨fun hbs => ?_, fun hbs => ?_⟩ <;> first | (exfalso; revert hbs; (simp); done) | skip
        refine ⟨fun hbs => ?_, fun hbs => ?_⟩ <;> first | (exfalso; revert hbs; (simp); done) | skip
        refine ⟨fun hbs => ?_, fun hbs => ?_⟩ <;> first | (exfalso; revert hbs; (simp); done) | skip
        refine ⟨fun hbs => ?_, fun hbs => ?_⟩ <;> first | (exfalso; revert hbs; (simp); done) | skip
        refine ⟨by decide, by decide, ?_⟩
        refine ⟨fun h => ?_, fun h => ?_⟩
        · exfalso
          have h : Int.tmod (IntKind.i64.wrap ((r : Int).tdiv 9)) 3 = 0 := of_decide_eq_true h
          rw [e9] at h
          have : Int.tmod ((r / 9 : Nat) : Int) 3 = ((r / 9 % 3 : Nat) : Int) := rfl
          omega
        · refine .inl ⟨_, hT, ?_⟩
          exact rfl
end Go.Proofs.YtkhnjmbgkakngaaGreatDoor

namespace Go.Proofs.YtkhnjmbgkakngaaGreatDoor
open Go Fp
set_option maxRecDepth 10000
set_option maxHeartbeats 4000000
set_option linter.unusedVariables false
set_option linter.unusedSimpArgs false

theorem nm5_get {r : Nat} (h : r < 5) : (eSs nms5)[r]? = some (.lit (.string (nms5.getD r .empty))) := by
  match r, h with
  | 0, _ | 1, _ | 2, _ | 3, _ | 4, _ => rfl
  | n + 5, h => omega
structure StepP (l : List Int) (q : PR × Nat) : Prop where
  sml : Sml 3 q.1.ty
  pick : ∃ r : Nat, q.1.cls = nms5.getD (r % 5) .empty ∧ ACall Tryz.prog n_fugueref12_pick [.sl (eIs l), .lit (.int .i64 0)] (.lit (.int .i64 (r : Nat)))
  typ : ACall Tryz.prog n_fugueref12_typ [.sl (eIs (l.drop 1)), .lit (.int .i64 1)] (.tup [eTy q.1.ty, .sl (eIs (l.drop (q.2 + 2)))])
theorem stepPr {l : List Int} (hl : l.length < 1000000) (hr : ∀ x ∈ l, InR x) : ∃ q, StepP l q := by
  obtain ⟨r, _, h1⟩ := pick12_ok (by omega) hr 0
  obtain ⟨t, j, h2, h3⟩ := typ_ok 3 1 rfl (l.drop 1) (by rw [List.length_drop]; omega) (fun x hx => hr x (List.mem_of_mem_drop hx))
  rw [List.drop_drop, show 1 + (j + 1) = j + 2 by omega] at h3
  exact ⟨(⟨nms5.getD (r % 5) .empty, t⟩, j), h2, ⟨r, rfl, h1⟩, h3⟩
instance : Nonempty (PR × Nat) := ⟨(⟨.empty, .no⟩, 0)⟩
noncomputable def stp (l : List Int) : PR × Nat := Classical.epsilon (StepP l)
theorem stp_ok {l : List Int} (hl : l.length < 1000000) (hr : ∀ x ∈ l, InR x) : StepP l (stp l) := Classical.epsilon_spec (stepPr hl hr)
noncomputable def prd : Nat → List Int → List PR
  | 0, _ => []
  | n + 1, l => match l with
    | [] => []
    | x :: r => (stp (x :: r)).1 :: prd n ((x :: r).drop ((stp (x :: r)).2 + 2))
theorem prd_nil (n : Nat) : prd n [] = [] := by cases n <;> rfl
theorem prd_cons (n : Nat) {l : List Int} (h : l ≠ []) : prd (n + 1) l = (stp l).1 :: prd n (l.drop ((stp l).2 + 2)) := by
  cases l with
  | nil => exact absurd rfl h
  | cons x r => rfl
theorem prd_len : ∀ (n : Nat) (l : List Int), (prd n l).length ≤ n
  | 0, l => by simp [prd]
  | n + 1, [] => by simp [prd]
  | n + 1, x :: r => by rw [prd_cons n (by simp)]; simp only [List.length_cons]; have := prd_len n ((x :: r).drop ((stp (x :: r)).2 + 2)); omega
theorem prd_sml : ∀ (n : Nat) {l : List Int}, l.length < 1000000 → (∀ x ∈ l, InR x) → ∀ p ∈ prd n l, Sml 3 p.ty
  | 0, l, _, _, p, hp => by simp [prd] at hp
  | n + 1, [], _, _, p, hp => by simp [prd] at hp
  | n + 1, x :: r, hl, hr, p, hp => by
    rw [prd_cons n (by simp)] at hp
    rcases List.mem_cons.1 hp with rfl | hp
    · exact (stp_ok hl hr).sml
    · exact prd_sml n (by rw [List.length_drop]; omega) (fun y hy => hr y (List.mem_of_mem_drop hy)) p hp
theorem preds_ok {l : List Int} (hl : l.length < 9223372036854775808) (hr : ∀ x ∈ l, InR x) (n : Nat) (hn : n < 1000) : ACall Tryz.prog n_fugueref12_Preds [.sl (eIs l), .lit (.int .i64 (n : Nat))] (.sl (ePrs (prd n (l.take 30)))) := by
  have hr30 : ∀ x ∈ l.take 30, InR x := fun x hx => hr x (List.mem_of_mem_take hx)
  have hl30 : (l.take 30).length < 1000000 := by rw [List.length_take]; omega
  have hI := ints_ok (l := l) (n := 30) hl (by decide)
  revert hr30 hl30 hI
  generalize l.take 30 = m
  intro hr30 hl30 hI
  generalize hR : prd n m = R
  refine acall_of_wcx ttok mixed Tryz.func8 rfl (by rfl) (Nat.le_of_ble_eq_true rfl) (by kernel_rfl) ?_
  refine .inl ⟨_, names_ok, ?_⟩
  refine .inl ⟨_, hI, ?_⟩
  refine ⟨{p : List Int × List PR // p.2.length ≤ n ∧ p.1.length < 1000000 ∧ (∀ x ∈ p.1, InR x) ∧ R = p.2 ++ prd (n - p.2.length) p.1}, fun p => { vs := [(0, .v (.sl (eIs p.1.1))), (1, sv (n : Nat)), (5, .v (.sl (eSs nms5))), (7, .v (.sl (ePrs p.1.2)))], ow := [(7, 0, 6)] },
    fun p => n - p.1.2.length, ⟨(m, []), Nat.zero_le _, hl30, hr30, hR.symm⟩, ⟨⟨rfl, rfl, rfl, rfl, trivial⟩, ⟨trivial, trivial⟩, rfl⟩, ?_⟩
  rintro ⟨⟨q, out⟩, hout, hlq, hrq, hinv⟩
  simp only at hout hlq hrq hinv
  by_cases hqn : q = []
  · subst hqn
    rw [prd_nil, List.append_nil] at hinv
    subst hinv
    refine ⟨fun hbs => ?_, fun hbs => ?_⟩ <;> first | (exfalso; revert hbs; (simp [eIs]); done) | skip
    exact rfl
  · have hqp : 0 < q.length := List.length_pos_iff.2 hqn
    refine ⟨fun hbs => ?_, fun hbs => ?_⟩ <;> first | (exfalso; revert hbs; (simp [eIs]; omega); done) | skip
    by_cases ho : out.length < n
    · refine ⟨fun hbs => ?_, fun hbs => ?_⟩ <;> first | (exfalso; revert hbs; (simp [ePrs]; omega); done) | skip
      rw [show n - out.length = (n - (out.length + 1)) + 1 by omega, prd_cons _ hqn] at hinv
      obtain ⟨h1, ⟨r5, h2, h3⟩, h4⟩ := stp_ok hlq hrq
      refine .inl ⟨_, h3, ?_⟩
      refine ⟨by decide, ?_⟩
      have hr5 : r5 % 5 < 5 := Nat.mod_lt _ (by decide)
      have hg := nm5_get hr5
      rw [← h2] at hg
      refine ⟨_, (show (0 : Int) ≤ ((r5 % 5 : Nat) : Int) by omega), hg, rfl, ?_⟩
      refine ⟨by decide, by show (1 : Int) ≤ ((eIs q).length : Nat); simp [eIs]; omega, by omega, .inr (uniI _), ?_⟩
      have e : (((eIs q).take ((eIs q).length : Int).toNat).drop (1 : Int).toNat) = eIs (q.drop 1) := by
        rw [show ((eIs q).length : Int).toNat = (eIs q).length from rfl, List.take_length]
        simp [eIs]
      rw [← e] at h4
      refine .inl ⟨_, h4, ?_⟩
      refine ⟨by show (ePrs out).length + 1 ≤ 4294967296; simp [ePrs]; omega, uniPr _, uni1 rfl, ?_⟩
      refine ⟨⟨(q.drop ((stp q).2 + 2), out ++ [(stp q).1]), by simp; omega, by rw [List.length_drop]; omega, fun y hy => hrq y (List.mem_of_mem_drop hy), by rw [hinv]; simp⟩, by show n - (out ++ [(stp q).1]).length < n - out.length; simp; omega, ⟨rfl, rfl, rfl, ?_, trivial⟩, ⟨rfl, trivial⟩, rfl⟩
      show SV.v (.sl (ePrs out ++ [ePr (stp q).1])) = SV.v (.sl (ePrs (out ++ [(stp q).1])))
      rw [ePrs_snoc]
    · refine ⟨fun hbs => ?_, fun hbs => ?_⟩ <;> first | (exfalso; revert hbs; (simp [ePrs]; omega); done) | skip
      have : n - out.length = 0 := by omega
      rw [this, prd, List.append_nil] at hinv
      subst hinv
      exact rfl
end Go.Proofs.YtkhnjmbgkakngaaGreatDoor
