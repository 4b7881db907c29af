/- A part of the proof of a given statement: contracts of functions of the program, under no condition but those that each states. -/
import Derived.Test.YtefdahofpjmnfaaL7
set_option linter.unusedSimpArgs false
set_option linter.unusedVariables false
namespace Go.Proofs.Ytefdahofpjmnfaa
open Go Fp
set_option maxRecDepth 10000
set_option maxHeartbeats 8000000

/-! The world's data types. -/
def eCon (q : ByteArray × List Tp) : AV := .agg [.lit (.string q.1), .lit (.int .i64 0), .sl (eTys q.2)]
def eCons (l : List (ByteArray × List Tp)) : List AV := l.map eCon
abbrev wsBool : List (ByteArray × List Tp) := [(sFalse, []), (sTrue, [])]
abbrev wsL : List (ByteArray × List Tp) := [(sN, []), (sC, [.var sa, .app (.con sL) (.var sa)])]
abbrev wsT : List (ByteArray × List Tp) := [(sA, []), (sB, [.con sInt, .con sBool]), (sD, [.con sT])]
def eData (s : ByteArray) (a : Int) (vs : List ByteArray) (ks : List AV) (cs : List (ByteArray × List Tp)) : AV :=
  .agg [.lit (.string s), .lit (.int .i64 a), .sl (eSs vs), .sl ks, .sl (eCons cs)]
def dBool : AV := eData sBool 0 [] [] wsBool
def dL : AV := eData sL 1 [sa] [.agg [.sl []]] wsL
def dT : AV := eData sT 2 [] [] wsT
def aProg : AV := .agg [.sl [dL, dT], .sl [], .sl [], .sl []]

theorem world_ok : ACall Try.prog n_fugueref14_World [] aProg := by
  refine acall_of_wc ttok mixed Try.func27 rfl (by rfl) (Nat.le_of_ble_eq_true rfl) (by kernel_rfl) ?_
  refine .inl ⟨_, given_ok sL [.var sa] (by decide), ?_⟩
  refine .inl ⟨_, worldType_ok 0 (by decide), .inl ⟨_, worldType_ok 1 (by decide), .inl ⟨_, worldType_ok 3 (by decide), ?_⟩⟩⟩
  exact rfl
theorem program_ok : ACall Try.prog n_fugueref20_Program [] aProg := by
  refine acall_of_wc ttok mixed Try.func10 rfl (by rfl) (Nat.le_of_ble_eq_true rfl) (by kernel_rfl) ?_
  exact .inl ⟨_, world_ok, rfl⟩
theorem datas_ok : ACall Try.prog n_fugueref20_Datas [] (.sl [dBool, dL, dT]) := by
  refine acall_of_wc ttok mixed Try.func12 rfl (by rfl) (Nat.le_of_ble_eq_true rfl) (by kernel_rfl) ?_
  refine .inl ⟨_, program_ok, ?_⟩
  refine ⟨by decide, ?_, ?_, ?_⟩
  · exact uniMap (f := fun x : AV => dBool) (fun _ => rfl) [dBool]
  · intro x hx; simp at hx; rcases hx with rfl | rfl <;> rfl
  exact rfl

/-- The row has the column, and its pattern there is one. -/
def colOk (a : Nat) (r : Rw) : Prop := ∃ p, r.ps[a]? = some p ∧ (p.f = 1 ∨ p.f = 2 ∨ p.f = 3 ∧ p.k = [] ∨ p.f = 4) ∧ p.k.length ≤ 2 ∧ r.ps.length < 10000 ∧ r.lost.length < 10000

theorem getRr {l : List Rw} {k : Nat} (h : k < l.length) : (eRrs l)[k]? = some (eRr l[k]) := getM h
theorem parts_le (K : Kn) (a : Nat) (y : ByteArray) (l : List Rw) : (parts K a y l).length ≤ l.length := List.length_filterMap_le _ _
theorem parts_snoc (K : Kn) (a : Nat) (y : ByteArray) (l : List Rw) (r : Rw) : parts K a y (l ++ [r]) = parts K a y l ++ (match part K a y r with | some x => [x] | none => []) := by
  unfold parts
  rw [List.filterMap_append]
  congr 1
  cases h : part K a y r <;> simp [List.filterMap_cons, h]

theorem Apart_ok (K : Kn) (l : List Rw) (a : Nat) (y : ByteArray) (hc : ∀ r ∈ l, colOk a r) (hm : K.many ≤ 2) (hb : l.length < 10000) :
    ACall Try.prog n_fugueref20_Apart [.sl (eRrs l), .lit (.int .i64 (a : Nat)), .lit (.int .i64 K.form), .lit (.string K.nam), .lit (.int .i64 K.num), .lit (.string y)] (.sl (eRrs (parts K a y l))) := by
  refine acall_of_wc ttok mixed Try.func52 rfl (by rfl) (Nat.le_of_ble_eq_true rfl) (by kernel_rfl) ?_
  refine ⟨{k : Nat // k ≤ l.length}, fun k => { vs := [(0, .v (.sl (eRrs l))), (1, .v (.lit (.int .i64 (a : Nat)))), (2, .v (.lit (.int .i64 K.form))), (3, .v (.lit (.string K.nam))), (4, .v (.lit (.int .i64 K.num))), (5, .v (.lit (.string y))), (13, .v (.sl (eRrs (parts K a y (l.take k.1))))), (14, .v (.lit (.int .i64 (k.1 : Nat))))], ow := [(13, 0, 4)] },
    fun k => l.length - k.1, ⟨0, Nat.zero_le _⟩, ⟨⟨rfl, rfl, rfl, rfl, rfl, rfl, rfl, rfl, trivial⟩, ⟨trivial, trivial⟩, rfl⟩, ?_⟩
  rintro ⟨k, hk⟩
  refine ⟨fun h => ?_, fun h => ?_⟩
  · have h : k < l.length := by have h := of_decide_eq_true h; simp [eRrs] at h; omega
    obtain ⟨p, p1, p2, p3, p4, p5⟩ := hc _ (List.getElem_mem h)
    have hq := apart_ok K l[k] a y p1 p2 p3 hm p4 p5
    have hs := parts_snoc K a y (l.take k) l[k]
    rw [← List.take_succ_eq_append_getElem h] at hs
    have hle := parts_le K a y (l.take k)
    refine ⟨_, by omega, getRr h, rfl, ?_⟩
    refine .inl ⟨_, hq, ?_⟩
    cases hx : part K a y l[k] with
    | none =>
      rw [hx] at hs
      simp only [List.append_nil] at hs
      refine ⟨fun hbs => ?_, fun hbs => ?_⟩ <;> first | (exfalso; revert hbs; simp [Kn.form]; done) | skip
      refine ⟨⟨k + 1, h⟩, by simp; omega, ⟨rfl, rfl, rfl, rfl, rfl, rfl, ?_, ?_, trivial⟩, ⟨rfl, trivial⟩, rfl⟩
      · show _ = SV.v (AV.sl (eRrs (parts K a y (l.take (k + 1)))))
        rw [hs]; rfl
      · exact congrArg (fun l => SV.v (AV.lit (Value.int .i64 l))) (wrap_succ (k := k) (by omega))
    | some x =>
      rw [hx] at hs
      refine ⟨fun hbs => ?_, fun hbs => ?_⟩ <;> first | (exfalso; revert hbs; simp [Kn.form]; done) | skip
      refine ⟨by simp [eRrs] at hle ⊢; omega, uniRr _, uniMap (f := eRr) (fun _ => rfl) [x], ?_⟩
      refine ⟨⟨k + 1, h⟩, by simp; omega, ⟨rfl, rfl, rfl, rfl, rfl, rfl, ?_, ?_, trivial⟩, ⟨rfl, trivial⟩, rfl⟩
      · show _ = SV.v (AV.sl (eRrs (parts K a y (l.take (k + 1)))))
        rw [hs]; unfold eRrs; rw [List.map_append]; rfl
      · exact congrArg (fun l => SV.v (AV.lit (Value.int .i64 l))) (wrap_succ (k := k) (by omega))
  · have h : k = l.length := by have h := of_decide_eq_false h; simp [eRrs] at h; omega
    subst h
    show AV.sl (eRrs (parts K a y (l.take l.length))) = _
    rw [List.take_length]
end Go.Proofs.Ytefdahofpjmnfaa
