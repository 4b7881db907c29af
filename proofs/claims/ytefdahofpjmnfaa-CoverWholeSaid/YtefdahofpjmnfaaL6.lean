/- A part of the proof of a given statement: contracts of functions of the program, under no condition but those that each states. -/
import Derived.Test.YtefdahofpjmnfaaL5
set_option linter.unusedSimpArgs false
set_option linter.unusedVariables false
namespace Go.Proofs.Ytefdahofpjmnfaa
open Go Fp
set_option maxRecDepth 10000
set_option maxHeartbeats 8000000


/-- A row: patterns side by side, what was lost, its body. -/
structure Rw where
  ps : List Pt
  lost : List (ByteArray × Tp × ByteArray)
  body : Nat

/-- A name as core, and the name that it is given. -/
def eL (q : ByteArray × Tp × ByteArray) : AV :=
  .agg [.lit (.string q.1), .lit (.int .i64 q.2.1.form), .lit (.int .i64 q.2.1.num), .lit (.string q.2.1.nam), .sl q.2.1.eArgs, .lit (.int .i64 1), .lit (.int .i64 0), .lit (.string q.2.2), .lit (.int .i64 0), .lit (.int .i64 0), .lit (.string .empty), .sl [], .sl [], .sl [], .sl []]
def eLs (l : List (ByteArray × Tp × ByteArray)) : List AV := l.map eL
def eN (q : ByteArray × Tp × ByteArray) : AV := .agg [.lit (.string q.1), .lit (.int .i64 q.2.1.form), .lit (.int .i64 q.2.1.num), .lit (.string q.2.1.nam), .sl q.2.1.eArgs, .lit (.string q.2.2)]
def eNs (l : List (ByteArray × Tp × ByteArray)) : List AV := l.map eN
/-- A row of the program: bodies are cores of a form and a number. -/
def eRw (F : Int) (b : Nat → Int) (r : Rw) : AV :=
  .agg [.sl (ePts r.ps), .sl (eLs r.lost), .lit (.int .i64 F), .lit (.int .i64 (b r.body)), .lit (.string .empty), .lit (.int .i64 0), .lit (.int .i64 0), .lit (.string .empty), .sl [], .sl [], .sl [], .sl []]
def eRws (F : Int) (b : Nat → Int) (l : List Rw) : List AV := l.map (eRw F b)
def eRr (r : Rw) : AV := .agg [.sl (ePts r.ps), .sl (eNs r.lost), .lit (.int .i64 (r.body : Nat))]
def eRrs (l : List Rw) : List AV := l.map eRr
theorem uniL (l) : Uni 15 (eLs l) := uniMap (f := eL) (n := 15) (fun _ => rfl) l
theorem uniN (l) : Uni 6 (eNs l) := uniMap (f := eN) (n := 6) (fun _ => rfl) l
theorem uniRw (F b) (l) : Uni 12 (eRws F b l) := uniMap (f := eRw F b) (n := 12) (fun _ => rfl) l
theorem uniRr (l) : Uni 3 (eRrs l) := uniMap (f := eRr) (n := 3) (fun _ => rfl) l

def Pt.opn (p : Pt) : Bool := decide (p.f = 1) || decide (p.f = 2)
theorem open20_ok (p : Pt) : ACall Try.prog n_fugueref20_open [ePt p] (.sb p.opn) := by
  refine acall_of_wc ttok mixed Try.func77 rfl (by rfl) (Nat.le_of_ble_eq_true rfl) (by kernel_rfl) ?_
  refine ⟨fun h => ?_, fun h => ?_⟩
  · have h := of_decide_eq_false h
    show AV.sb (decide (p.f = 2)) = _
    simp [Pt.opn, h]
  · have h := of_decide_eq_true h
    show AV.sb true = _
    simp [Pt.opn, h]
theorem open_ok (p : Pt) : ACall Try.prog n_cover_open [ePt p] (.sb p.opn) := by
  refine acall_of_wc ttok mixed Try.func63 rfl (by rfl) (Nat.le_of_ble_eq_true rfl) (by kernel_rfl) ?_
  refine ⟨fun h => ?_, fun h => ?_⟩
  · have h := of_decide_eq_false h
    show AV.sb (decide (p.f = 2)) = _
    simp [Pt.opn, h]
  · have h := of_decide_eq_true h
    show AV.sb true = _
    simp [Pt.opn, h]

/-- The rows that patterns are: bodies are numbered. -/
def rowsFrom (n : Nat) : List Pt → List Rw
  | [] => []
  | p :: l => ⟨[p], [], n⟩ :: rowsFrom (n + 1) l
theorem rowsFrom_len : ∀ (l : List Pt) (n : Nat), (rowsFrom n l).length = l.length
  | [], _ => rfl
  | p :: l, n => by simp [rowsFrom, rowsFrom_len l]
theorem rowsFrom_snoc (p : Pt) : ∀ (l : List Pt) (n : Nat), rowsFrom n (l ++ [p]) = rowsFrom n l ++ [⟨[p], [], n + l.length⟩]
  | [], _ => rfl
  | q :: l, n => by simp only [List.cons_append, rowsFrom, rowsFrom_snoc p l, List.length_cons]; rw [show n + 1 + l.length = n + (l.length + 1) by omega]

theorem rows20_ok (l : List Pt) (hl : l.length < 1000) : ACall Try.prog n_fugueref20_Rows [.sl (ePts l)] (.sl (eRrs (rowsFrom 0 l))) := by
  refine acall_of_wc ttok mixed Try.func29 rfl (by rfl) (Nat.le_of_ble_eq_true rfl) (by kernel_rfl) ?_
  refine ⟨{k : Nat // k ≤ l.length}, fun k => { vs := [(0, .v (.sl (ePts l))), (3, .v (.sl (eRrs (rowsFrom 0 (l.take k.1))))), (4, .v (.lit (.int .i64 (k.1 : Nat))))], ow := [(3, 0, 4)] },
    fun k => l.length - k.1, ⟨0, Nat.zero_le _⟩, ⟨⟨rfl, rfl, rfl, trivial⟩, ⟨trivial, trivial⟩, rfl⟩, ?_⟩
  rintro ⟨k, hk⟩
  refine ⟨fun h => ?_, fun h => ?_⟩
  · have h : k < l.length := by simp [ePts] at h; omega
    refine ⟨_, by omega, getP h, rfl, ?_⟩
    refine ⟨by simp [eRrs, rowsFrom_len]; omega, uniRr _, uniMap (f := eRr) (fun _ => rfl) [⟨[l[k]], [], k⟩], ?_⟩
    refine ⟨⟨k + 1, h⟩, by simp; omega, ⟨rfl, ?_, ?_, trivial⟩, ⟨rfl, trivial⟩, rfl⟩
    · show _ = SV.v (AV.sl (eRrs (rowsFrom 0 (l.take (k + 1)))))
      rw [List.take_succ_eq_append_getElem h, rowsFrom_snoc, show 0 + (l.take k).length = k by simp; omega]
      unfold eRrs
      rw [List.map_append]; rfl
    · exact congrArg (fun l => SV.v (AV.lit (Value.int .i64 l))) (wrap_succ (k := k) (by omega))
  · have h : k = l.length := by simp [ePts] at h; omega
    subst h
    show AV.sl (eRrs (rowsFrom 0 (l.take l.length))) = _
    rw [List.take_length]

theorem rows_ok (l : List Pt) (hl : l.length < 1000) : ACall Try.prog n_cover_rows [.sl (ePts l)] (.sl (eRws 0 (fun _ => 0) (rowsFrom 0 l))) := by
  refine acall_of_wc ttok mixed Try.func24 rfl (by rfl) (Nat.le_of_ble_eq_true rfl) (by kernel_rfl) ?_
  refine ⟨{k : Nat // k ≤ l.length}, fun k => { vs := [(3, .v (.sl (eRws 0 (fun _ => 0) (rowsFrom 0 (l.take k.1))))), (6, .v (.sl (ePts l))), (7, .v (.lit (.int .i64 ((ePts l).length : Nat)))), (8, .v (.lit (.int .i64 (k.1 : Nat))))], ow := [(3, 0, 13)] },
    fun k => l.length - k.1, ⟨0, Nat.zero_le _⟩, ⟨⟨rfl, rfl, rfl, rfl, trivial⟩, ⟨trivial, trivial⟩, rfl⟩, ?_⟩
  rintro ⟨k, hk⟩
  refine ⟨fun h => ?_, fun h => ?_⟩
  · have h : k < l.length := by simp [ePts] at h; omega
    refine ⟨_, by omega, getP h, rfl, ?_⟩
    refine ⟨by simp [eRws, rowsFrom_len]; omega, uniRw _ _ _, uniMap (f := eRw 0 (fun _ => 0)) (fun _ => rfl) [⟨[l[k]], [], k⟩], ?_⟩
    refine ⟨⟨k + 1, h⟩, by simp; omega, ⟨?_, rfl, rfl, ?_, trivial⟩, ⟨rfl, trivial⟩, rfl⟩
    · show _ = SV.v (AV.sl (eRws 0 (fun _ => 0) (rowsFrom 0 (l.take (k + 1)))))
      rw [List.take_succ_eq_append_getElem h, rowsFrom_snoc, show 0 + (l.take k).length = k by simp; omega]
      unfold eRws
      rw [List.map_append]; rfl
    · exact congrArg (fun l => SV.v (AV.lit (Value.int .i64 l))) (wrap_succ (k := k) (by omega))
  · have h : k = l.length := by simp [ePts] at h; omega
    subst h
    show AV.sl (eRws 0 (fun _ => 0) (rowsFrom 0 (l.take l.length))) = _
    rw [List.take_length]
end Go.Proofs.Ytefdahofpjmnfaa
