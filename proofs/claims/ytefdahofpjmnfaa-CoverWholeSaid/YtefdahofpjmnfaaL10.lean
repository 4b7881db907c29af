/- A part of the proof of a given statement: contracts of functions of the program, under no condition but those that each states. -/
import Derived.Test.YtefdahofpjmnfaaL9
set_option linter.unusedSimpArgs false
set_option linter.unusedVariables false
namespace Go.Proofs.Ytefdahofpjmnfaa
open Go Fp
set_option maxRecDepth 10000
set_option maxHeartbeats 8000000

theorem memT {x : Int} {out : List Int} {j : Nat} (h : j < out.length) : (x ∈ out.take (j + 1)) = (x ∈ out.take j ∨ x = out[j]) := by
  rw [List.take_succ_eq_append_getElem h, List.mem_append, List.mem_singleton]

/-- The integers of a column, one more row. -/
def intStep (a : Nat) (out : List Int) (r : Rw) : List Int := match r.ps[a]? with
  | some p => if p.f = 3 ∧ p.n ∉ out then out ++ [p.n] else out
  | none => out
def intsOf (a : Nat) (l : List Rw) : List Int := l.foldl (intStep a) []
theorem intStep_le (a : Nat) (out : List Int) (r : Rw) : (intStep a out r).length ≤ out.length + 1 := by
  unfold intStep
  split
  · split <;> simp
  · omega
theorem ints_le (a : Nat) : ∀ (l : List Rw) (out : List Int), (l.foldl (intStep a) out).length ≤ out.length + l.length
  | [], out => by simp
  | r :: l, out => by have := ints_le a l (intStep a out r); have := intStep_le a out r; simp; omega

theorem Ints_ok (l : List Rw) (a : Nat) (hc : ∀ r ∈ l, colOk a r) (hb : l.length < 10000) :
    ACall Try.prog n_fugueref20_Ints [.sl (eRrs l), .lit (.int .i64 (a : Nat))] (.sl (eIs (intsOf a l))) := by
  refine acall_of_wc ttok mixed Try.func53 rfl (by rfl) (Nat.le_of_ble_eq_true rfl) (by kernel_rfl) ?_
  refine ⟨{k : Nat // k ≤ l.length}, fun k => { vs := [(0, .v (.sl (eRrs l))), (1, .v (.lit (.int .i64 (a : Nat)))), (5, .v (.sl (eIs (intsOf a (l.take k.1))))), (6, .v (.lit (.int .i64 (k.1 : Nat))))], ow := [(5, 0, 2)] },
    fun k => l.length - k.1, ⟨0, Nat.zero_le _⟩, ⟨⟨rfl, rfl, rfl, rfl, trivial⟩, ⟨trivial, trivial⟩, rfl⟩, ?_⟩
  rintro ⟨k, hk⟩
  refine ⟨fun h => ?_, fun h => ?_⟩
  · have h : k < l.length := by have h := of_decide_eq_true h; simp [eRrs] at h; omega
    obtain ⟨p, p1, p2, p3, p4, p5⟩ := hc _ (List.getElem_mem h)
    have ha : a < l[k].ps.length := (List.getElem?_eq_some_iff.1 p1).1
    have hp' : (ePts l[k].ps)[a]? = some (ePt p) := by simp [ePts, p1]
    have hst : intsOf a (l.take (k + 1)) = intStep a (intsOf a (l.take k)) l[k] := by unfold intsOf; rw [List.take_succ_eq_append_getElem h, List.foldl_append]; rfl
    have hle : (intsOf a (l.take k)).length ≤ k := by have := ints_le a (l.take k) []; simp at this; exact Nat.le_trans this (by omega)
    generalize intsOf a (l.take k) = out at hst hle
    have hlen : (eIs out).length = out.length := by simp [eIs]
    have hstep : intStep a out l[k] = if p.f = 3 ∧ p.n ∉ out then out ++ [p.n] else out := by unfold intStep; rw [p1]
    refine ⟨_, by omega, getRr h, rfl, ?_⟩
    refine ⟨_, by omega, hp', rfl, ?_⟩
    refine ⟨{j : Nat // j ≤ out.length}, fun j => { vs := [(0, .v (.sl (eRrs l))), (1, .v (.lit (.int .i64 (a : Nat)))), (5, .v (.sl (eIs out))), (6, .v (.lit (.int .i64 (k : Nat)))), (7, .box 0 (ePt p)), (8, .v (.sb (decide (p.n ∈ out.take j.1)))), (9, .v (.lit (.int .i64 (j.1 : Nat))))], ow := [(5, 0, 2)] },
      fun j => out.length - j.1, ⟨0, Nat.zero_le _⟩, ⟨⟨rfl, rfl, rfl, rfl, rfl, ?_, rfl, trivial⟩, ⟨rfl, trivial⟩, rfl⟩, ?_⟩
    · exact rfl
    rintro ⟨j, hj⟩
    refine ⟨fun h1 => ?_, fun h1 => ?_⟩
    · have h1 : j < out.length := by have h1 := of_decide_eq_true h1; rw [hlen] at h1; simp only at h1; omega
      refine ⟨fun h2 => ?_, fun h2 => ?_⟩
      · have h2 := of_decide_eq_false h2
        refine ⟨_, by omega, getI h1, rfl, ?_⟩
        refine ⟨⟨j + 1, h1⟩, by simp; omega, ⟨rfl, rfl, rfl, rfl, rfl, ?_, congrArg (fun l => SV.v (AV.lit (Value.int .i64 l))) (wrap_succ (k := j) (by omega)), trivial⟩, ⟨rfl, trivial⟩, rfl⟩
        refine congrArg (fun b => SV.v (AV.sb b)) ?_
        simp only at h2
        by_cases he : out[j] = p.n
        · simp only [memT h1, he, or_true]
        · have he' : p.n ≠ out[j] := fun h => he h.symm
          simp only [memT h1, he, h2, he', or_false]
      · have h2 := of_decide_eq_true h2
        refine ⟨⟨j + 1, h1⟩, by simp; omega, ⟨rfl, rfl, rfl, rfl, rfl, ?_, congrArg (fun l => SV.v (AV.lit (Value.int .i64 l))) (wrap_succ (k := j) (by omega)), trivial⟩, ⟨rfl, trivial⟩, rfl⟩
        refine congrArg (fun b => SV.v (AV.sb b)) ?_
        simp only at h2
        simp [memT h1, h2]
    · have h1 : j = out.length := by have h1 := of_decide_eq_false h1; rw [hlen] at h1; simp only at h1; omega
      subst h1
      have idx : SV.v (AV.lit (Value.int .i64 (IntKind.i64.wrap ((k : Int) + 1)))) = SV.v (AV.lit (Value.int .i64 ((k + 1 : Nat) : Int))) := congrArg (fun l => SV.v (AV.lit (Value.int .i64 l))) (wrap_succ (k := k) (by omega))
      refine ⟨fun h3 => ?_, fun h3 => ?_⟩
      · have h3 : p.f = 3 := of_decide_eq_true h3
        refine ⟨fun h4 => ?_, fun h4 => ?_⟩
        · have h4 : p.n ∉ out := by simpa using h4
          refine ⟨by rw [hlen]; simp; omega, uniI _, uniI [p.n], ?_⟩
          refine ⟨⟨k + 1, h⟩, by simp; omega, ⟨rfl, rfl, ?_, idx, trivial⟩, ⟨rfl, trivial⟩, rfl⟩
          show _ = SV.v (AV.sl (eIs (intsOf a (l.take (k + 1)))))
          rw [hst, hstep, if_pos ⟨h3, h4⟩]
          unfold eIs
          rw [List.map_append]; rfl
        · have h4 : p.n ∈ out := by simpa using h4
          refine ⟨⟨k + 1, h⟩, by simp; omega, ⟨rfl, rfl, ?_, idx, trivial⟩, ⟨rfl, trivial⟩, rfl⟩
          show _ = SV.v (AV.sl (eIs (intsOf a (l.take (k + 1)))))
          rw [hst, hstep, if_neg (fun h => h.2 h4)]
          rfl
      · have h3 : p.f ≠ 3 := of_decide_eq_false h3
        refine ⟨⟨k + 1, h⟩, by simp; omega, ⟨rfl, rfl, ?_, idx, trivial⟩, ⟨rfl, trivial⟩, rfl⟩
        show _ = SV.v (AV.sl (eIs (intsOf a (l.take (k + 1)))))
        rw [hst, hstep, if_neg (fun h => h3 h.1)]
        rfl
  · have h : k = l.length := by have h := of_decide_eq_false h; simp [eRrs] at h; omega
    subst h
    show AV.sl (eIs (intsOf a (l.take l.length))) = _
    rw [List.take_length]
end Go.Proofs.Ytefdahofpjmnfaa
