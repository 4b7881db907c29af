/- What is refused. No condition but that there is little. -/
import Derived.Test.YtkhnjmbgkakngaaGreatDoorE
import Derived.Test.YtkhnjmbgkakngaaGreatDoorFpL
set_option linter.unusedSimpArgs false
set_option linter.unusedVariables false
namespace Go.Proofs.YtkhnjmbgkakngaaGreatDoor
open Go Fp
set_option maxRecDepth 10000
set_option maxHeartbeats 4000000
set_option linter.unusedVariables false
set_option linter.unusedSimpArgs false

def lackP (is : List In) (con : ByteArray) (s : ByteArray) : Bool := !(instI is s con).isSome
abbrev bxE (m : List Cl) (mm : List (AV × AV)) (is : List In) : AV := .ptr [eEnv m mm is]
abbrev bxI (x : In) : AV := .ptr (eIn x).cells
theorem lack_ok (m : List Cl) (mm : List (AV × AV)) (is : List In) (hl : is.length < 100000) (x : In) (s : ByteArray) : ACall Tryz.prog 61 [.lit (.string s), bxE m mm is, bxI x] (.sb (lackP is x.con s)) := by
  refine acall_of_wcx ttok mixed Tryz.func61 rfl (by rfl) (Nat.le_of_ble_eq_true rfl) (by kernel_rfl) ?_
  refine .inl ⟨_, inst_ok m mm is hl s x.con, ?_⟩
  exact rfl
theorem ixStr_ok (m : List Cl) (mm : List (AV × AV)) (is : List In) (hi : is.length < 100000) (x : In) (l : List ByteArray) (hl : l.length < 100000) : ACall Tryz.prog 86 [.sl (eSs l), .fn (.func 61) [] [bxE m mm is, bxI x]] (.lit (.int .i64 (ixP (lackP is x.con) l))) := by
  refine acall_of_wcx ttok mixed Tryz.func86 rfl (by rfl) (Nat.le_of_ble_eq_true rfl) (by kernel_rfl) ?_
  refine ⟨{k : Nat // k ≤ l.length ∧ ∀ j (hj : j < l.length), j < k → lackP is x.con l[j] = false}, fun k => { vs := [(0, .v (.sl (eSs l))), (1, .v (.fn (.func 61) [] [bxE m mm is, bxI x])), (7, sv (l.length : Nat)), (8, sv (k.1 : Nat))] },
    fun k => l.length - k.1, ⟨0, Nat.zero_le _, fun j hj h => by omega⟩, ⟨⟨rfl, rfl, svc (by simp [eSs]), rfl, trivial⟩, trivial, rfl⟩, ?_⟩
  rintro ⟨k, hk, hinv⟩
  refine ⟨fun h => ?_, fun h => ?_⟩
  · have h : k < l.length := by have h : (k : Int) < (l.length : Nat) := of_decide_eq_true h; omega
    refine ⟨.lit (.string l[k]), by omega, getS h, rfl, ?_⟩
    refine .inl ⟨_, lack_ok m mm is hi x l[k], ?_⟩
    refine ⟨fun hp => ?_, fun hp => ?_⟩
    · have e : ixP (lackP is x.con) l = (k : Nat) := by
        unfold ixP
        rw [List.findIdx?_eq_some_iff_getElem.2 ⟨h, hp, fun j hj => by simp [hinv j (by omega) hj]⟩]
      rw [e]; exact rfl
    · refine ⟨⟨k + 1, h, fun j hj hjk => ?_⟩, (show l.length - (k + 1) < l.length - k by omega), ⟨rfl, rfl, rfl, svc (wrap_succ (k := k) (by omega)), trivial⟩, trivial, rfl⟩
      by_cases hjk2 : j = k
      · subst hjk2; exact hp
      · exact hinv j hj (by omega)
  · have h : k = l.length := by have h : ¬ (k : Int) < (l.length : Nat) := of_decide_eq_false h; omega
    have e : ixP (lackP is x.con) l = -1 := by
      unfold ixP
      rw [List.findIdx?_eq_none_iff.2 fun x hx => by
        obtain ⟨j, hj, rfl⟩ := List.mem_iff_getElem.1 hx
        exact hinv j hj (by omega)]
    rw [e]; exact rfl
theorem ixP_ge {α : Type} (p : α → Bool) (l : List α) : decide (0 ≤ ixP p l) = l.any p := by
  unfold ixP
  cases h : l.findIdx? p with
  | none =>
    have := List.findIdx?_eq_none_iff.1 h
    have e : l.any p = false := by simpa using this
    rw [e]; decide
  | some i =>
    obtain ⟨h1, h2, _⟩ := List.findIdx?_eq_some_iff_getElem.1 h
    rw [List.any_eq_true.2 ⟨_, List.getElem_mem h1, h2⟩]
    exact decide_eq_true (by simp)
theorem lacks_ok (m : List Cl) (mm : List (AV × AV)) (is : List In) (hi : is.length < 100000) (x : In) (l : List ByteArray) (hl : l.length < 100000) : ACall Tryz.prog 62 [.sl (eSs l), .fn (.func 61) [] [bxE m mm is, bxI x]] (.sb (l.any (lackP is x.con))) := by
  refine acall_of_wcx ttok mixed Tryz.func62 rfl (by rfl) (Nat.le_of_ble_eq_true rfl) (by kernel_rfl) ?_
  refine .inl ⟨_, ixStr_ok m mm is hi x l hl, ?_⟩
  rw [← ixP_ge]
  exact rfl
end Go.Proofs.YtkhnjmbgkakngaaGreatDoor

namespace Go.Proofs.YtkhnjmbgkakngaaGreatDoor
open Go Fp
set_option maxRecDepth 10000
set_option maxHeartbeats 4000000
set_option linter.unusedVariables false
set_option linter.unusedSimpArgs false

def eAt (p : Int × Int) : AV := .agg [.lit (.int .i64 p.1), .lit (.int .i64 p.2)]
def eAts (l : List (Int × Int)) : List AV := l.map eAt
theorem uniAt (l : List (Int × Int)) : Uni 2 (eAts l) := fun a ha => by obtain ⟨x, _, rfl⟩ := List.mem_map.1 ha; rfl
theorem eAts_snoc (l : List (Int × Int)) (p : Int × Int) : eAts l ++ [eAt p] = eAts (l ++ [p]) := by simp [eAts]
def own0 (m : List Cl) (s : ByteArray) : Int := match lookC m s with
  | some c => c.at_
  | none => 0
def aboveB (m : List Cl) (s : ByteArray) : Bool := bfs m (stepA s) (m.length + 1) [(s, [])] [] false
def g1 (m cs : List Cl) (out : List (Int × Int)) (k : Nat) : List (Int × Int) := match cs[k]? with
  | some c => if (decide (own0 m c.nm = c.at_) && aboveB m c.nm) = true then out ++ [(35, c.at_)] else out
  | none => out
def g2 (is : List In) (out : List (Int × Int)) (k : Nat) : List (Int × Int) := match is[k]? with
  | some x => if ((instI is x.cls x.con).isSome && decide ((((instI is x.cls x.con).getD 0 : Nat) : Int) < (k : Nat))) = true then out ++ [(34, x.at_)] else out
  | none => out
def g3 (m : List Cl) (is : List In) (out : List (Int × Int)) (k : Nat) : List (Int × Int) := match is[k]? with
  | some x => if (sups m x.cls).any (lackP is x.con) = true then out ++ [(35, x.at_)] else out
  | none => out
def upTo {α : Type} (g : α → Nat → α) (a : α) : Nat → α
  | 0 => a
  | k + 1 => g (upTo g a k) k
theorem upTo_len {g : List (Int × Int) → Nat → List (Int × Int)} (hg : ∀ out k, (g out k).length ≤ out.length + 1) (a : List (Int × Int)) : ∀ k, (upTo g a k).length ≤ a.length + k
  | 0 => Nat.le_refl _
  | k + 1 => by have h1 := upTo_len hg a k; have h2 := hg (upTo g a k) k; simp only [upTo]; omega
theorem g1_len (m cs : List Cl) (out : List (Int × Int)) (k : Nat) : (g1 m cs out k).length ≤ out.length + 1 := by
  unfold g1; split
  · split <;> simp
  · omega
theorem g2_len (is : List In) (out : List (Int × Int)) (k : Nat) : (g2 is out k).length ≤ out.length + 1 := by
  unfold g2; split
  · split <;> simp
  · omega
theorem g3_len (m : List Cl) (is : List In) (out : List (Int × Int)) (k : Nat) : (g3 m is out k).length ≤ out.length + 1 := by
  unfold g3; split
  · split <;> simp
  · omega
def refs (m cs : List Cl) (is : List In) : List (Int × Int) := upTo (g3 m is) (upTo (g2 is) (upTo (g1 m cs) [] cs.length) is.length) is.length
theorem getCl {x : List Cl} {k : Nat} (h : k < x.length) : (eCls x)[k]? = some (eCl x[k]) := by simp [eCls, h]
/-- A program: its classes and instances. -/
def eProg (cs : List Cl) (is : List In) : AV := .agg [.sl [], .sl (eCls cs), .sl (eIns is), .sl []]

theorem refusals_ok (m : List Cl) (mm : List (AV × AV)) (cs : List Cl) (is is0 : List In) (hm : m.length < 1000) (hsup : ∀ c ∈ m, c.sup.length < 1000) (hc : cs.length < 100000) (hi : is.length < 100000) :
    ACall Tryz.prog n_classes_Env_refusals [eEnv m mm is, eProg cs is0] (.sl (eAts (refs m cs is))) := by
  generalize hF : refs m cs is = fin
  unfold refs at hF
  have l1 := upTo_len (g1_len m cs) []
  generalize h1 : upTo (g1 m cs) [] cs.length = F1 at hF
  have l2 := upTo_len (g2_len is) F1
  generalize h2 : upTo (g2 is) F1 is.length = F2 at hF
  have l3 := upTo_len (g3_len m is) F2
  refine acall_of_wsem ttok mixed Tryz.func29 rfl (by rfl) (Nat.le_of_ble_eq_true rfl) (by kernel_rfl) ?_
  have tail3 : Wsem Tryz.prog (sndC (sndC (sndC (sndC (bodyC Tryz.f29))))) (mkC { vs := [(2, .box 0 (eEnv m mm is)), (5, .v (.sl (eAts F2)))], ow := [(5, 0, 3)] })
      (fun c => RetP tt Tryz.f29.results.toList (.sl (eAts fin)) (den c)) (fun _ _ => False) (fun c => RetP tt Tryz.f29.results.toList (.sl (eAts fin)) (den c)) := by
    refine Wsem.shut 2 rfl ?_
    refine Wsem.seq ttok mixed ?_
    refine ⟨{k : Nat // k ≤ is.length}, fun k => { vs := [(2, .v (bxE m mm is)), (5, .v (.sl (eAts (upTo (g3 m is) F2 k.1)))), (85, .v (.sl (eIns is))), (86, sv (is.length : Nat)), (87, sv (k.1 : Nat))], ow := [(5, 0, 3)] },
      fun k => is.length - k.1, ⟨0, Nat.zero_le _⟩, ⟨⟨rfl, rfl, rfl, svc (by simp [eIns]), rfl, trivial⟩, ⟨rfl, trivial⟩, rfl⟩, ?_⟩
    rintro ⟨k, hk⟩
    refine ⟨fun h => ?_, fun h => ?_⟩
    rotate_left
    · have h : k = is.length := by have h : ¬ (k : Int) < (is.length : Nat) := of_decide_eq_false h; omega
      subst h
      refine Wsem.of ttok mixed ?_
      show AV.sl (eAts (upTo (g3 m is) F2 is.length)) = _
      rw [hF]
    have h : k < is.length := by have h : (k : Int) < (is.length : Nat) := of_decide_eq_true h; omega
    refine ⟨eIn is[k], by omega, getN h, rfl, ?_⟩
    have hg : upTo (g3 m is) F2 (k + 1) = if (sups m is[k].cls).any (lackP is is[k].con) = true then upTo (g3 m is) F2 k ++ [(35, is[k].at_)] else upTo (g3 m is) F2 k := by
      show g3 m is (upTo (g3 m is) F2 k) k = _
      unfold g3
      rw [List.getElem?_eq_getElem h]
    generalize hck : is[k] = c at *
    have hlk := l3 k
    have hl1 := l1 cs.length
    rw [h1] at hl1
    have hl2 := l2 is.length
    rw [h2] at hl2
    refine .inl ?_
    obtain ⟨r0, hr0, hr1⟩ : ∃ r, Fp.Found (clsL m) (.string c.cls) r ∧ ((r = none ∧ sups m c.cls = []) ∨ ∃ j c', r = some (j, eCl c') ∧ sups m c.cls = c'.sup ∧ c'.sup.length < 1000) := by
      rcases found_cls m c.cls with ⟨e1, e2⟩ | ⟨j, c', e1, e2⟩
      · exact ⟨_, e2, .inl ⟨rfl, by unfold sups; rw [e1]⟩⟩
      · exact ⟨_, e2, .inr ⟨j, c', rfl, by unfold sups; rw [e1], hsup c' (lookC_mem e1).1⟩⟩
    refine ⟨r0, keys_cls m, trivial, hr0, ?_⟩
    rcases hr1 with ⟨rfl, h0⟩ | ⟨j, c', rfl, h0, h0'⟩
    · refine .inl ⟨_, lacks_ok m mm is hi c [] (by simp), ?_⟩
      refine ⟨by kernel_rfl, ?_⟩
      rw [h0] at hg
      refine ⟨fun hbs => ?_, fun hbs => ?_⟩ <;> first | (exfalso; revert hbs; (simp); done) | skip
      rw [if_neg (by simp)] at hg
      refine ⟨⟨k + 1, h⟩, (show is.length - (k + 1) < is.length - k by omega), ⟨rfl, by show _ = SV.v (.sl (eAts (upTo (g3 m is) F2 (k + 1)))); rw [hg]; rfl, rfl, rfl, svc (wrap_succ (k := k) (by omega)), trivial⟩, ⟨rfl, trivial⟩, rfl⟩
    · refine .inl ⟨_, lacks_ok m mm is hi c c'.sup (by omega), ?_⟩
      refine ⟨by kernel_rfl, ?_⟩
      rw [h0] at hg
      refine ⟨fun hb => ?_, fun hb => ?_⟩
      · rw [hb, if_pos rfl] at hg
        refine ⟨by simp [eAts] at hlk hl1 hl2 ⊢; omega, uniAt _, uni1 rfl, ?_⟩
        refine ⟨⟨k + 1, h⟩, (show is.length - (k + 1) < is.length - k by omega), ⟨rfl, by show _ = SV.v (.sl (eAts (upTo (g3 m is) F2 (k + 1)))); rw [hg, ← eAts_snoc]; rfl, rfl, rfl, svc (wrap_succ (k := k) (by omega)), trivial⟩, ⟨rfl, trivial⟩, rfl⟩
      · rw [hb, if_neg (by simp)] at hg
        refine ⟨⟨k + 1, h⟩, (show is.length - (k + 1) < is.length - k by omega), ⟨rfl, by show _ = SV.v (.sl (eAts (upTo (g3 m is) F2 (k + 1)))); rw [hg]; rfl, rfl, rfl, svc (wrap_succ (k := k) (by omega)), trivial⟩, ⟨rfl, trivial⟩, rfl⟩
  have tail2 : Wsem Tryz.prog (sndC (sndC (sndC (bodyC Tryz.f29)))) (mkC { vs := [(2, .box 0 (eEnv m mm is)), (5, .v (.sl (eAts F1)))], ow := [(5, 0, 3)] })
      (fun c => RetP tt Tryz.f29.results.toList (.sl (eAts fin)) (den c)) (fun _ _ => False) (fun c => RetP tt Tryz.f29.results.toList (.sl (eAts fin)) (den c)) := by
    refine Wsem.seq ttok mixed ?_
    refine ⟨{k : Nat // k ≤ is.length}, fun k => { vs := [(2, .box 0 (eEnv m mm is)), (5, .v (.sl (eAts (upTo (g2 is) F1 k.1)))), (53, .v (.sl (eIns is))), (54, sv (is.length : Nat)), (55, sv (k.1 : Nat))], ow := [(5, 0, 3)] },
      fun k => is.length - k.1, ⟨0, Nat.zero_le _⟩, ⟨⟨rfl, rfl, rfl, svc (by simp [eIns]), rfl, trivial⟩, ⟨rfl, trivial⟩, rfl⟩, ?_⟩
    rintro ⟨k, hk⟩
    refine ⟨fun h => ?_, fun h => ?_⟩
    rotate_left
    · have h : k = is.length := by have h : ¬ (k : Int) < (is.length : Nat) := of_decide_eq_false h; omega
      subst h
      refine Wsem.cut _ ?_ tail3
      exact ⟨⟨rfl, by show _ = SV.v (.sl (eAts F2)); rw [← h2]; rfl, trivial⟩, ⟨rfl, trivial⟩, rfl⟩
    have h : k < is.length := by have h : (k : Int) < (is.length : Nat) := of_decide_eq_true h; omega
    refine ⟨eIn is[k], by omega, getN h, rfl, ?_⟩
    have hg : upTo (g2 is) F1 (k + 1) = if ((instI is is[k].cls is[k].con).isSome && decide ((((instI is is[k].cls is[k].con).getD 0 : Nat) : Int) < (k : Nat))) = true then upTo (g2 is) F1 k ++ [(34, is[k].at_)] else upTo (g2 is) F1 k := by
      show g2 is (upTo (g2 is) F1 k) k = _
      unfold g2
      rw [List.getElem?_eq_getElem h]
    generalize hck : is[k] = c at *
    have hlk := l2 k
    have hl1 := l1 cs.length
    rw [h1] at hl1
    refine .inl ⟨_, inst_ok m mm is hi c.cls c.con, ?_⟩
    refine ⟨fun ht => ?_, fun ht => ?_⟩
    · rw [ht, Bool.true_and] at hg
      refine ⟨fun hb => ?_, fun hb => ?_⟩
      · rw [hb, if_pos rfl] at hg
        refine ⟨by simp [eAts] at hlk hl1 ⊢; omega, uniAt _, uni1 rfl, ?_⟩
        refine ⟨⟨k + 1, h⟩, (show is.length - (k + 1) < is.length - k by omega), ⟨rfl, by show _ = SV.v (.sl (eAts (upTo (g2 is) F1 (k + 1)))); rw [hg, ← eAts_snoc]; rfl, rfl, rfl, svc (wrap_succ (k := k) (by omega)), trivial⟩, ⟨rfl, trivial⟩, rfl⟩
      · rw [hb, if_neg (by simp)] at hg
        refine ⟨⟨k + 1, h⟩, (show is.length - (k + 1) < is.length - k by omega), ⟨rfl, by show _ = SV.v (.sl (eAts (upTo (g2 is) F1 (k + 1)))); rw [hg]; rfl, rfl, rfl, svc (wrap_succ (k := k) (by omega)), trivial⟩, ⟨rfl, trivial⟩, rfl⟩
    · simp only [Bool.not_true] at ht
      rw [ht, Bool.false_and, if_neg (by simp)] at hg
      refine ⟨⟨k + 1, h⟩, (show is.length - (k + 1) < is.length - k by omega), ⟨rfl, by show _ = SV.v (.sl (eAts (upTo (g2 is) F1 (k + 1)))); rw [hg]; rfl, rfl, rfl, svc (wrap_succ (k := k) (by omega)), trivial⟩, ⟨rfl, trivial⟩, rfl⟩
  refine Wsem.seq ttok mixed ?_
  refine Wsem.seq ttok mixed ?_
  refine Wsem.seq ttok mixed ?_
  refine ⟨{k : Nat // k ≤ cs.length}, fun k => { vs := [(2, .box 0 (eEnv m mm is)), (5, .v (.sl (eAts (upTo (g1 m cs) [] k.1)))), (17, .v (.sl (eCls cs))), (18, sv (cs.length : Nat)), (19, sv (k.1 : Nat))], ow := [(5, 0, 3)] },
    fun k => cs.length - k.1, ⟨0, Nat.zero_le _⟩, ⟨⟨rfl, rfl, rfl, svc (by simp [eCls]), rfl, trivial⟩, ⟨trivial, trivial⟩, rfl⟩, ?_⟩
  rintro ⟨k, hk⟩
  refine ⟨fun h => ?_, fun h => ?_⟩
  rotate_left
  · have h : k = cs.length := by have h : ¬ (k : Int) < (cs.length : Nat) := of_decide_eq_false h; omega
    subst h
    refine Wsem.cut _ ?_ tail2
    exact ⟨⟨rfl, by show _ = SV.v (.sl (eAts F1)); rw [← h1]; rfl, trivial⟩, ⟨rfl, trivial⟩, rfl⟩
  have h : k < cs.length := by have h : (k : Int) < (cs.length : Nat) := of_decide_eq_true h; omega
  refine ⟨eCl cs[k], by omega, getCl h, rfl, ?_⟩
  have hg : upTo (g1 m cs) [] (k + 1) = if (decide (own0 m cs[k].nm = cs[k].at_) && aboveB m cs[k].nm) = true then upTo (g1 m cs) [] k ++ [(35, cs[k].at_)] else upTo (g1 m cs) [] k := by
    show g1 m cs (upTo (g1 m cs) [] k) k = _
    unfold g1
    rw [List.getElem?_eq_getElem h]
  generalize hck : cs[k] = c at *
  have hlk := l1 k
  obtain ⟨r0, hr0, hr1⟩ : ∃ r, Fp.Found (clsL m) (.string c.nm) r ∧ ((r = none ∧ own0 m c.nm = 0) ∨ ∃ j c', r = some (j, eCl c') ∧ own0 m c.nm = c'.at_) := by
    rcases found_cls m c.nm with ⟨e1, e2⟩ | ⟨j, c', e1, e2⟩
    · exact ⟨_, e2, .inl ⟨rfl, by unfold own0; rw [e1]⟩⟩
    · exact ⟨_, e2, .inr ⟨j, c', rfl, by unfold own0; rw [e1]⟩⟩
  refine ⟨r0, keys_cls m, trivial, hr0, ?_⟩
  rcases hr1 with ⟨rfl, h0⟩ | ⟨j, c', rfl, h0⟩
  all_goals
    refine ⟨by kernel_rfl, ?_⟩
    rw [h0] at hg
    refine ⟨fun ht => ?_, fun ht => ?_⟩
    · rw [ht] at hg
      refine .inl ⟨_, above_ok m mm is hm hsup c.nm c.nm, ?_⟩
      refine ⟨fun hb => ?_, fun hb => ?_⟩
      · have hb : aboveB m c.nm = true := hb
        rw [hb, Bool.and_self, if_pos rfl] at hg
        refine ⟨by simp [eAts] at hlk ⊢; omega, uniAt _, uni1 rfl, ?_⟩
        refine ⟨⟨k + 1, h⟩, (show cs.length - (k + 1) < cs.length - k by omega), ⟨rfl, by show _ = SV.v (.sl (eAts (upTo (g1 m cs) [] (k + 1)))); rw [hg, ← eAts_snoc]; rfl, rfl, rfl, svc (wrap_succ (k := k) (by omega)), trivial⟩, ⟨rfl, trivial⟩, rfl⟩
      · have hb : aboveB m c.nm = false := hb
        rw [hb, Bool.and_false, if_neg (by simp)] at hg
        refine ⟨⟨k + 1, h⟩, (show cs.length - (k + 1) < cs.length - k by omega), ⟨rfl, by show _ = SV.v (.sl (eAts (upTo (g1 m cs) [] (k + 1)))); rw [hg]; rfl, rfl, rfl, svc (wrap_succ (k := k) (by omega)), trivial⟩, ⟨rfl, trivial⟩, rfl⟩
    · simp only [Bool.not_true] at ht
      rw [ht, Bool.false_and, if_neg (by simp)] at hg
      refine ⟨⟨k + 1, h⟩, (show cs.length - (k + 1) < cs.length - k by omega), ⟨rfl, by show _ = SV.v (.sl (eAts (upTo (g1 m cs) [] (k + 1)))); rw [hg]; rfl, rfl, rfl, svc (wrap_succ (k := k) (by omega)), trivial⟩, ⟨rfl, trivial⟩, rfl⟩
end Go.Proofs.YtkhnjmbgkakngaaGreatDoor

namespace Go.Proofs.YtkhnjmbgkakngaaGreatDoor
open Go Fp
set_option maxRecDepth 10000
set_option maxHeartbeats 4000000
set_option linter.unusedVariables false
set_option linter.unusedSimpArgs false

def zCl : Cl := ⟨.empty, 0, .empty, [], []⟩
theorem backC_iter (l : List Cl) (hl : l.length < 100000) : IterG Tryz.prog 57 [] [.ptr [.sl (eCls l)]] l.length (fun k => [.lit (.int .i64 ((l.length - 1 - k : Nat) : Int)), eCl (l.getD (l.length - 1 - k) zCl)]) := by
  refine iterG_of ttok Tryz.func57 rfl (by rfl) (Nat.le_of_ble_eq_true rfl) (by kernel_rfl) (by kernel_rfl) (fun hp l0 B hY => ?_)
  refine WsemB.seq ttok mixed ?_
  refine WsemB.block ?_
  refine WsemB.loop (α := {k : Nat // k ≤ l.length}) (fun k => { vs := [(0, .v (.lit (yv l0))), (1, .v (.ptr [.sl (eCls l)])), (3, sv ((l.length : Int) - 1 - (k.1 : Nat)))], hp := hp k.1 }) (fun k => l.length - k.1) ⟨0, Nat.zero_le _⟩ ⟨⟨rfl, rfl, svc ?_, trivial⟩, trivial, rfl⟩ ?_
  · simp only [eCls, List.length_map]
    rw [Int.sub_sub, show (1 : Int) + ((0 : Nat) : Int) = 1 from rfl]
    simp [IntKind.wrap, IntKind.signed, IntKind.bits]; omega
  rintro ⟨k, hk⟩
  simp only
  refine WsemB.seq ttok mixed ?_
  refine ⟨fun h => ?_, fun h => ?_⟩
  rotate_left
  · have h : k = l.length := by have h : ¬ (0 : Int) ≤ (l.length : Int) - 1 - (k : Nat) := of_decide_eq_false h; omega
    subst h
    exact rfl
  have h : k < l.length := by have h : (0 : Int) ≤ (l.length : Int) - 1 - (k : Nat) := of_decide_eq_true h; omega
  refine WsemB.seqS ?_
  refine WsemB.block ?_
  refine WsemB.seqS (WsemB.regionY ttok 6 ?_)
  have hix : ((l.length : Int) - 1 - (k : Nat)).toNat = l.length - 1 - k := by omega
  have hgd : (eCls l)[((l.length : Int) - 1 - (k : Nat)).toNat]? = some (eCl (l.getD (l.length - 1 - k) zCl)) := by
    rw [hix, getCl (by omega)]
    simp [List.getD_eq_getElem?_getD, show l.length - 1 - k < l.length by omega]
  refine ⟨_, by show (0 : Int) ≤ (l.length : Int) - 1 - (k : Nat); omega, hgd, rfl, ?_⟩
  have hxs : (l.length : Int) - 1 - (k : Nat) = ((l.length - 1 - k : Nat) : Int) := by omega
  refine ⟨l0, goesY (hp (k + 1)), rfl, fun cx hcx => ?_, ?_⟩
  · have := hY k h cx hcx
    rw [← hxs] at this
    exact this
  rintro r w h2 ⟨rfl, rfl⟩
  refine WsemB.of ttok mixed ?_
  refine WsemB.of ttok mixed ?_
  refine ⟨⟨k + 1, h⟩, (show l.length - (k + 1) < l.length - k by omega), ⟨rfl, rfl, svc ?_, trivial⟩, trivial, rfl⟩
  simp [IntKind.wrap, IntKind.signed, IntKind.bits]; omega
theorem backC_ok (l : List Cl) : ACall Tryz.prog n_slices_Backward_apiClassapiClass [.sl (eCls l)] (.fn (.func 57) [] [.ptr [.sl (eCls l)]]) := by
  refine acall_of_wcx ttok mixed Tryz.func27 rfl (by rfl) (Nat.le_of_ble_eq_true rfl) (by kernel_rfl) ?_
  refine .inl ?_
  exact rfl
def zSg : ByteArray × Int := (.empty, 0)
theorem getSg {x : List (ByteArray × Int)} {k : Nat} (h : k < x.length) : (eSgs x)[k]? = some (eSg x[k]) := by simp [eSgs, h]
theorem backS_iter (l : List (ByteArray × Int)) (hl : l.length < 100000) : IterG Tryz.prog 58 [] [.ptr [.sl (eSgs l)]] l.length (fun k => [.lit (.int .i64 ((l.length - 1 - k : Nat) : Int)), eSg (l.getD (l.length - 1 - k) zSg)]) := by
  refine iterG_of ttok Tryz.func58 rfl (by rfl) (Nat.le_of_ble_eq_true rfl) (by kernel_rfl) (by kernel_rfl) (fun hp l0 B hY => ?_)
  refine WsemB.seq ttok mixed ?_
  refine WsemB.block ?_
  refine WsemB.loop (α := {k : Nat // k ≤ l.length}) (fun k => { vs := [(0, .v (.lit (yv l0))), (1, .v (.ptr [.sl (eSgs l)])), (3, sv ((l.length : Int) - 1 - (k.1 : Nat)))], hp := hp k.1 }) (fun k => l.length - k.1) ⟨0, Nat.zero_le _⟩ ⟨⟨rfl, rfl, svc ?_, trivial⟩, trivial, rfl⟩ ?_
  · simp only [eSgs, List.length_map]
    rw [Int.sub_sub, show (1 : Int) + ((0 : Nat) : Int) = 1 from rfl]
    simp [IntKind.wrap, IntKind.signed, IntKind.bits]; omega
  rintro ⟨k, hk⟩
  simp only
  refine WsemB.seq ttok mixed ?_
  refine ⟨fun h => ?_, fun h => ?_⟩
  rotate_left
  · have h : k = l.length := by have h : ¬ (0 : Int) ≤ (l.length : Int) - 1 - (k : Nat) := of_decide_eq_false h; omega
    subst h
    exact rfl
  have h : k < l.length := by have h : (0 : Int) ≤ (l.length : Int) - 1 - (k : Nat) := of_decide_eq_true h; omega
  refine WsemB.seqS ?_
  refine WsemB.block ?_
  refine WsemB.seqS (WsemB.regionY ttok 6 ?_)
  have hix : ((l.length : Int) - 1 - (k : Nat)).toNat = l.length - 1 - k := by omega
  have hgd : (eSgs l)[((l.length : Int) - 1 - (k : Nat)).toNat]? = some (eSg (l.getD (l.length - 1 - k) zSg)) := by
    rw [hix, getSg (by omega)]
    simp [List.getD_eq_getElem?_getD, show l.length - 1 - k < l.length by omega]
  refine ⟨_, by show (0 : Int) ≤ (l.length : Int) - 1 - (k : Nat); omega, hgd, rfl, ?_⟩
  have hxs : (l.length : Int) - 1 - (k : Nat) = ((l.length - 1 - k : Nat) : Int) := by omega
  refine ⟨l0, goesY (hp (k + 1)), rfl, fun cx hcx => ?_, ?_⟩
  · have := hY k h cx hcx
    rw [← hxs] at this
    exact this
  rintro r w h2 ⟨rfl, rfl⟩
  refine WsemB.of ttok mixed ?_
  refine WsemB.of ttok mixed ?_
  refine ⟨⟨k + 1, h⟩, (show l.length - (k + 1) < l.length - k by omega), ⟨rfl, rfl, svc ?_, trivial⟩, trivial, rfl⟩
  simp [IntKind.wrap, IntKind.signed, IntKind.bits]; omega
theorem backS_ok (l : List (ByteArray × Int)) : ACall Tryz.prog n_slices_Backward_apiSigapiSig [.sl (eSgs l)] (.fn (.func 58) [] [.ptr [.sl (eSgs l)]]) := by
  refine acall_of_wcx ttok mixed Tryz.func28 rfl (by rfl) (Nat.le_of_ble_eq_true rfl) (by kernel_rfl) ?_
  refine .inl ?_
  exact rfl
end Go.Proofs.YtkhnjmbgkakngaaGreatDoor

namespace Go.Proofs.YtkhnjmbgkakngaaGreatDoor
open Go Fp
set_option maxRecDepth 10000
set_option maxHeartbeats 4000000
set_option linter.unusedVariables false
set_option linter.unusedSimpArgs false

theorem uniIn (l : List In) : Uni 6 (eIns l) := fun a ha => by obtain ⟨x, _, rfl⟩ := List.mem_map.1 ha; rfl
theorem cloneN_ok (l : List In) (hl : l.length < 20000) : ACall Tryz.prog n_slices_Clone_apiInstapiInst [.sl (eIns l)] (.sl (eIns l)) := by
  cases l with
  | nil =>
    refine acall_of_wcx ttok mixed Tryz.func26 rfl (by rfl) (Nat.le_of_ble_eq_true rfl) (by kernel_rfl) ?_
    refine ⟨rfl, ?_⟩
    exact ⟨by decide, fun a ha => by simp at ha, uniIn [], rfl⟩
  | cons q l =>
    refine acall_of_wcx ttok mixed Tryz.func26 rfl (by rfl) (Nat.le_of_ble_eq_true rfl) (by kernel_rfl) ?_
    exact ⟨by simp [eIns] at hl ⊢; omega, fun a ha => by simp at ha, uniIn (q :: l), rfl⟩

/-- Methods, by their names. -/
abbrev ML := List (ByteArray × ByteArray × Int)
def eM (l : ML) : List (AV × AV) := l.map fun q => (.lit (.string q.1), .agg [.lit (.string q.2.1), .lit (.int .i64 q.2.2)])
def mput : ML → ByteArray → ByteArray × Int → ML
  | [], k, v => [(k, v)]
  | (k', v') :: r, k, v => if k' = k then (k, v) :: r else (k', v') :: mput r k v
theorem keys_M (l : ML) : ∀ p ∈ eM l, keyLike (.lit (.string .empty)) p.1 := fun p hp => by
  obtain ⟨y, _, rfl⟩ := List.mem_map.1 hp; trivial
theorem found_M (l : ML) (k : ByteArray) (v : ByteArray × Int) : ∃ r, Fp.Found (eM l) (.string k) r ∧ mapPut (eM l) (.string k) (.agg [.lit (.string v.1), .lit (.int .i64 v.2)]) r = eM (mput l k v) := by
  induction l with
  | nil => exact ⟨none, .no fun p hp => by simp [eM] at hp, rfl⟩
  | cons c r ih =>
    obtain ⟨k', v'⟩ := c
    by_cases hc : k' = k
    · subst hc
      exact ⟨some (0, _), .yes 0 _ rfl (fun i hi => by omega), by simp [mapPut, eM, mput]⟩
    · have hne : (AV.lit (.string k')) ≠ .lit (.string k) := fun e => by injection e with e; injection e with e; exact hc e
      obtain ⟨r0, h1, h2⟩ := ih
      cases h1 with
      | no h =>
        refine ⟨none, .no fun p hp => ?_, ?_⟩
        · rcases List.mem_cons.1 hp with rfl | hp
          · exact hne
          · exact h p hp
        · simp only [mput, if_neg hc]
          show mapPut (_ :: eM r) _ _ none = _ :: eM (mput r k v)
          rw [← h2]; rfl
      | yes j a h hf =>
        refine ⟨some (j + 1, a), .yes (j + 1) _ (by simpa [eM] using h) (fun i hi p hp => ?_), ?_⟩
        · match i with
          | 0 => simp [eM] at hp; subst hp; exact hne
          | i + 1 => exact hf i (by omega) p (by simpa [eM] using hp)
        · simp only [mput, if_neg hc]
          show mapPut (_ :: eM r) _ _ (some (j + 1, a)) = _ :: eM (mput r k v)
          rw [← h2]; rfl
def mthUp (c : Cl) (mm : ML) : Nat → ML := upTo (fun mm j => mput mm (c.mth.getD (c.mth.length - 1 - j) zSg).1 (c.nm, ((c.mth.length - 1 - j : Nat) : Int))) mm
def mthAll (cs : List Cl) : Nat → ML := upTo (fun mm k => mthUp (cs.getD (cs.length - 1 - k) zCl) mm (cs.getD (cs.length - 1 - k) zCl).mth.length) []

abbrev pE (bm bn : Nat) (is : List In) : AV := .ptr [.lit (.map (some bm)), .lit (.map (some bn)), .sl (eIns is)]
theorem not_yet {cs : List Cl} (hn : (cs.map Cl.nm).Nodup) {k : Nat} (hk : k < cs.length) : Fp.Found (clsL (cs.reverse.take k)) (.string (cs.getD (cs.length - 1 - k) zCl).nm) none ∧
    clsL (cs.reverse.take (k + 1)) = mapPut (clsL (cs.reverse.take k)) (.string (cs.getD (cs.length - 1 - k) zCl).nm) (eCl (cs.getD (cs.length - 1 - k) zCl)) none := by
  have hr : k < cs.reverse.length := by simpa using hk
  have e : cs.getD (cs.length - 1 - k) zCl = cs.reverse[k] := by
    rw [List.getElem_reverse, List.getD_eq_getElem?_getD, List.getElem?_eq_getElem (by omega)]
    rfl
  have hnr : (cs.reverse.map Cl.nm).Nodup := by rw [List.map_reverse]; exact (List.reverse_perm _).nodup_iff.2 hn
  rw [e]
  refine ⟨.no fun p hp => ?_, ?_⟩
  · obtain ⟨c, hc, rfl⟩ := List.mem_map.1 hp
    obtain ⟨j, hj⟩ := List.getElem?_of_mem hc
    rw [List.getElem?_take] at hj
    split at hj
    · rename_i hjk
      intro he
      have he : AV.lit (.string c.nm) = .lit (.string cs.reverse[k].nm) := he
      injection he with he; injection he with he
      have h1 : (cs.reverse.map Cl.nm)[j]? = some c.nm := by rw [List.getElem?_map, hj]; rfl
      have h2 : (cs.reverse.map Cl.nm)[k]? = some cs.reverse[k].nm := by rw [List.getElem?_map, List.getElem?_eq_getElem hr]; rfl
      rw [← he] at h2
      have := (List.getElem?_inj (by simpa using Nat.lt_trans hjk hr) hnr).1 (h1.trans h2.symm)
      omega
    · cases hj
  · rw [List.take_succ_eq_append_getElem hr]
    simp [clsL, mapPut]

/-- What is least of what is refused. -/
def leastR (l : List (Int × Int)) : Int × Int := upTo (fun a k => match l[k]? with
  | some r => if a.1 = 0 ∨ r.2 < a.2 then r else a
  | none => a) (0, 0) l.length

theorem newE_calls (cs : List Cl) (is : List In) (hn : (cs.map Cl.nm).Nodup) (hc : cs.length < 1000) (hsup : ∀ c ∈ cs, c.sup.length < 1000) (hmt : ∀ c ∈ cs, c.mth.length < 100000) (hi : is.length < 20000) :
    CallsG Tryz.prog (fnv n_classes_New) [] [eProg cs is] [] fun r o h => r = (if (leastR (refs cs.reverse cs is)).1 = 0 then .tup [eEnv cs.reverse (eM (mthAll cs cs.length)) is, eAt (0, 0)] else .tup [.lit (.pointer none), eAt (leastR (refs cs.reverse cs is))]) ∧ o = 0 ∧ h = [] := by
  refine CallsG.less0 (post := fun r o h => r = (if (leastR (refs cs.reverse cs is)).1 = 0 then .tup [eEnv cs.reverse (eM (mthAll cs cs.length)) is, eAt (0, 0)] else .tup [.lit (.pointer none), eAt (leastR (refs cs.reverse cs is))]) ∧ h = []) ?_ (fun r o h hp => ⟨h, [], by simp, hp.1, rfl, hp.2⟩)
  refine callsG_of_wsemM ttok Tryz.func6 rfl (by rfl) (Nat.le_of_ble_eq_true rfl) (by kernel_rfl) (by kernel_rfl) ?_
  refine WsemM.seq ttok mixed ?_
  refine ⟨MK.nil _, ?_⟩
  refine WsemM.seq ttok mixed ?_
  intro bm bn
  refine .inl ⟨_, cloneN_ok is hi, ?_⟩
  refine ⟨MK.nil _, ?_⟩
  refine WsemM.seqS ?_
  refine WsemM.seq ttok mixed ?_
  refine .inl ⟨_, backC_ok cs, ?_⟩
  refine ⟨MK.refl _, ?_⟩
  refine WsemM.shut 4 rfl ?_
  refine WsemM.block ?_
  refine WsemM.range (hp := fun k => [(bm, HO.mp (clsL (cs.reverse.take k))), (bn, HO.mp [])]) (vs0 := [(4, .v (.ptr [pE bm bn is]))]) rfl ?_ (by decide) ?_ (backC_iter cs (by omega)) (fun k hk => ⟨_, _, rfl, fun l0 q1 q2 hq1 hq2 => ?_⟩) (fun D h => by simp at h) (fun D1 => ?_)
  · exact ⟨rfl, trivial⟩
  · exact rfl
  · refine WsemB.of ttok mixed ?_
    refine ⟨rfl, ?_⟩
    refine WsemB.of ttok mixed ?_
    obtain ⟨hn1, hn2⟩ := not_yet hn hk
    refine ⟨0, _, none, rfl, keys_cls _, trivial, hn1, ?_⟩
    refine ⟨by kernel_rfl, ?_⟩
    show List.Sublist _ ((bm, HO.mp (mapPut (clsL (cs.reverse.take k)) (.string (cs.getD (cs.length - 1 - k) zCl).nm) (eCl (cs.getD (cs.length - 1 - k) zCl)) none)) :: _)
    rw [← hn2]
    exact List.Sublist.refl _
  have hall : cs.reverse.take cs.length = cs.reverse := by rw [List.take_of_length_le (by simp)]
  rw [hall]
  refine WsemM.seqS ?_
  refine WsemM.seq ttok mixed ?_
  refine .inl ⟨_, backC_ok cs, ?_⟩
  refine ⟨MK.refl _, ?_⟩
  refine WsemM.block ?_
  refine WsemM.range (hp := fun k => [(D1, HO.raw rawD), (bm, HO.mp (clsL cs.reverse)), (bn, HO.mp (eM (mthAll cs k)))]) (vs0 := [(4, .v (.ptr [pE bm bn is]))]) rfl ?_ (by decide) ?_ (backC_iter cs (by omega)) (fun k hk => ⟨_, _, rfl, fun l0 q1 q2 hq1 hq2 => ?_⟩) (fun D h => by simpa using h) (fun D2 => ?_)
  · exact ⟨rfl, trivial⟩
  · exact rfl
  · refine WsemB.of ttok mixed ?_
    refine ⟨rfl, ?_⟩
    have hmc : (cs.getD (cs.length - 1 - k) zCl).mth.length < 100000 := by
      rw [List.getD_eq_getElem?_getD, List.getElem?_eq_getElem (by omega)]
      exact hmt _ (List.getElem_mem _)
    have hstep : mthAll cs (k + 1) = mthUp (cs.getD (cs.length - 1 - k) zCl) (mthAll cs k) (cs.getD (cs.length - 1 - k) zCl).mth.length := rfl
    generalize hcc : cs.getD (cs.length - 1 - k) zCl = c at *
    refine WsemB.block ?_
    refine WsemB.seq ttok mixed ?_
    refine .inl ⟨_, backS_ok c.mth, ?_⟩
    refine WsemB.shut 8 rfl ?_
    refine WsemB.block ?_
    refine WsemB.range (lo := l0) (ql := q2) (hp := fun j => [(D1, HO.raw rawD), (bm, HO.mp (clsL cs.reverse)), (bn, HO.mp (eM (mthUp c (mthAll cs k) j)))] ++ [(l0, HO.raw q2)]) (by simp) hq2 (vs0 := [(4, .v (.ptr [pE bm bn is])), (8, .v (.ptr (eCl c).cells))]) rfl ?_ (by decide) ?_ (backS_iter c.mth hmc) (fun j hj => ⟨_, _, rfl, fun l1 q3 q4 hq3 hq4 => ?_⟩) ?_
    · exact ⟨rfl, rfl, trivial⟩
    · exact rfl
    · refine WsemB.of ttok mixed ?_
      refine ⟨rfl, ?_⟩
      refine WsemB.of ttok mixed ?_
      obtain ⟨r0, hr1, hr2⟩ := found_M (mthUp c (mthAll cs k) j) (c.mth.getD (c.mth.length - 1 - j) zSg).1 (c.nm, ((c.mth.length - 1 - j : Nat) : Int))
      refine ⟨2, _, r0, rfl, keys_M _, trivial, hr1, ?_⟩
      refine ⟨by kernel_rfl, ?_⟩
      show List.Sublist _ (_ :: _ :: (bn, HO.mp (mapPut (eM (mthUp c (mthAll cs k) j)) (.string (c.mth.getD (c.mth.length - 1 - j) zSg).1) (.agg [.lit (.string c.nm), .lit (.int .i64 ((c.mth.length - 1 - j : Nat) : Int))]) r0)) :: _)
      rw [hr2]
      exact List.Sublist.refl _
    · rw [← hstep]
      exact List.Sublist.refl _
  refine WsemM.cut { vs := [(1, .box 0 (eProg cs is)), (3, .box 0 (eAt (0, 0))), (4, .v (.ptr [pE bm bn is]))], hp := [(D2, HO.raw rawD), (D1, HO.raw rawD), (bm, HO.mp (clsL cs.reverse)), (bn, HO.mp (eM (mthAll cs cs.length)))] } ⟨⟨rfl, rfl, rfl, trivial⟩, trivial, rfl⟩ ?_
  have hfz : Frz [(bm, HO.mp (clsL cs.reverse)), (bn, HO.mp (eM (mthAll cs cs.length)))] (pE bm bn is) (eEnv cs.reverse (eM (mthAll cs cs.length)) is) := by
    refine .ptrs _ _ (Nat.le_refl 3) (fun c hc => ?_) (fun j c c' hc hc' => ?_)
    · simp at hc; rcases hc with rfl | rfl | rfl <;> rfl
    · match j with
      | 0 => simp at hc hc'; subst hc; subst hc'; exact .mp bm _ _ (by simp) rfl (fun j c c' h1 h2 => by rw [h1] at h2; injection h2 with h2; subst h2; exact .refl _) (fun j c c' h1 h2 => by rw [h1] at h2; injection h2 with h2; subst h2; exact .refl _)
      | 1 => simp at hc hc'; subst hc; subst hc'; exact .mp bn _ _ (by simp) rfl (fun j c c' h1 h2 => by rw [h1] at h2; injection h2 with h2; subst h2; exact .refl _) (fun j c c' h1 h2 => by rw [h1] at h2; injection h2 with h2; subst h2; exact .refl _)
      | 2 => simp at hc hc'; subst hc; subst hc'; exact .refl _
      | j + 3 => simp at hc
  refine WsemM.freezeH [(bm, HO.mp (clsL cs.reverse)), (bn, HO.mp (eM (mthAll cs cs.length)))] [(D2, HO.raw rawD), (D1, HO.raw rawD)] [(1, .box 0 (eProg cs is)), (3, .box 0 (eAt (0, 0))), (4, .v (.ptr [eEnv cs.reverse (eM (mthAll cs cs.length)) is]))] (List.Sublist.refl _) (fun D h => by simpa using h)
    ⟨.inl rfl, .inl rfl, .inr ⟨.ptr [pE bm bn is], .ptr [eEnv cs.reverse (eM (mthAll cs cs.length)) is], rfl, rfl, .ptrs [pE bm bn is] _ (Nat.le_refl 1) (fun c hc => by simp at hc; subst hc; rfl) (fun j c c' hc hc' => by
      match j with
      | 0 => simp at hc hc'; subst hc; subst hc'; exact hfz
      | j + 1 => simp at hc)⟩, trivial⟩ ?_
  have hR := refusals_ok cs.reverse (eM (mthAll cs cs.length)) cs is is (by simpa using hc) (fun c h => hsup c (by simpa using h)) (by omega) (by omega)
  have hrl : (refs cs.reverse cs is).length ≤ 100000 := by
    have l1 := upTo_len (g1_len cs.reverse cs) [] cs.length
    have l2 := upTo_len (g2_len is) (upTo (g1 cs.reverse cs) [] cs.length) is.length
    have l3 := upTo_len (g3_len cs.reverse is) (upTo (g2 is) (upTo (g1 cs.reverse cs) [] cs.length) is.length) is.length
    unfold refs
    simp at l1
    omega
  generalize hrf : refs cs.reverse cs is = rf at *
  obtain ⟨f, hf, hlf⟩ : ∃ f : Int × Int → Nat → Int × Int, (∀ a k, f a k = (match rf[k]? with | some r => if a.1 = 0 ∨ r.2 < a.2 then r else a | none => a)) ∧ leastR rf = upTo f (0, 0) rf.length := ⟨_, fun _ _ => rfl, rfl⟩
  refine WsemM.of ?_
  refine WsemB.seq ttok mixed ?_
  refine WsemB.seq ttok mixed ?_
  refine .inl ⟨_, hR, ?_⟩
  refine ⟨{k : Nat // k ≤ rf.length}, fun k => { vs := [(3, .box 0 (eAt (0, 0))), (4, .v (.ptr [eEnv cs.reverse (eM (mthAll cs cs.length)) is])), (11, .box 0 (eAt (upTo f (0, 0) k.1))), (56, .v (.sl (eAts rf))), (57, sv (rf.length : Nat)), (58, sv (k.1 : Nat))], hp := [(D2, HO.raw rawD), (D1, HO.raw rawD)] },
    fun k => rf.length - k.1, ⟨0, Nat.zero_le _⟩, ⟨⟨rfl, rfl, rfl, rfl, svc (by simp [eAts]), rfl, trivial⟩, trivial, rfl⟩, ?_⟩
  rintro ⟨k, hk⟩
  refine ⟨fun h => ?_, fun h => ?_⟩
  · have h : k < rf.length := by have h : (k : Int) < (rf.length : Nat) := of_decide_eq_true h; omega
    refine ⟨eAt rf[k], by omega, by simp [eAts, h], rfl, ?_⟩
    have hg : upTo f (0, 0) (k + 1) = if (upTo f (0, 0) k).1 = 0 ∨ rf[k].2 < (upTo f (0, 0) k).2 then rf[k] else upTo f (0, 0) k := by
      show f (upTo f (0, 0) k) k = _
      rw [hf, List.getElem?_eq_getElem h]
    generalize upTo f (0, 0) k = A at *
    generalize hrk : rf[k] = R at *
    have fr : ∀ B : Int × Int, upTo f (0, 0) (k + 1) = B → SV.box 0 (eAt B) = SV.box 0 (eAt (upTo f (0, 0) (k + 1))) := fun B e => by rw [e]
    refine ⟨fun ha => ?_, fun ha => ?_⟩
    · have ha : ¬ A.1 = 0 := by simpa using ha
      refine ⟨fun hb => ?_, fun hb => ?_⟩
      · have hb : R.2 < A.2 := of_decide_eq_true hb
        rw [if_pos (.inr hb)] at hg
        refine ⟨⟨k + 1, h⟩, (show rf.length - (k + 1) < rf.length - k by omega), ⟨rfl, rfl, fr R hg, rfl, rfl, svc (wrap_succ (k := k) (by omega)), trivial⟩, trivial, rfl⟩
      · have hb : ¬ R.2 < A.2 := of_decide_eq_false hb
        rw [if_neg (by simp [ha, hb])] at hg
        refine ⟨⟨k + 1, h⟩, (show rf.length - (k + 1) < rf.length - k by omega), ⟨rfl, rfl, fr A hg, rfl, rfl, svc (wrap_succ (k := k) (by omega)), trivial⟩, trivial, rfl⟩
    · have ha : A.1 = 0 := by simpa using ha
      rw [if_pos (.inl ha)] at hg
      refine ⟨⟨k + 1, h⟩, (show rf.length - (k + 1) < rf.length - k by omega), ⟨rfl, rfl, fr R hg, rfl, rfl, svc (wrap_succ (k := k) (by omega)), trivial⟩, trivial, rfl⟩
  · have h : k = rf.length := by have h : ¬ (k : Int) < (rf.length : Nat) := of_decide_eq_false h; omega
    subst h
    simp only [← hlf]
    refine WsemB.of ttok mixed ?_
    generalize leastR rf = A
    refine ⟨fun ha => ?_, fun ha => ?_⟩
    · have ha : ¬ A.1 = 0 := by simpa using ha
      refine ⟨by kernel_rfl, ?_⟩
      refine ⟨MK.refl _, ?_⟩
      rw [if_neg ha]
      exact ⟨rfl, rfl⟩
    · have ha : A.1 = 0 := by simpa using ha
      refine ⟨MK.refl _, ?_⟩
      rw [if_pos ha]
      exact ⟨rfl, rfl⟩
end Go.Proofs.YtkhnjmbgkakngaaGreatDoor
