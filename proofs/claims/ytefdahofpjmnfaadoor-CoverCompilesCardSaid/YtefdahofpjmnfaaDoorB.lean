/- A part of the proof of a given statement: contracts of functions of the program, under no condition but those that each states. -/
import Derived.Test.YtefdahofpjmnfaaDoorA
set_option linter.unusedSimpArgs false
set_option linter.unusedVariables false
namespace Go.Proofs.YtefdahofpjmnfaaDoor
open Go Fp
set_option maxRecDepth 10000
set_option maxHeartbeats 8000000


/-- A row: patterns side by side, what was lost, its body. -/
structure Rw where
  ps : List Pt
  lost : List (ByteArray × Tp × ByteArray)
  body : Nat

/-- A name as core, and the name that it is given. -/
def eL (q : ByteArray × Tp × ByteArray) : AV :=
  .agg [.lit (.string q.1), .lit (.int .i64 q.2.1.form), .lit (.int .i64 q.2.1.num), .lit (.string q.2.1.nam), .sl q.2.1.eArgs, .lit (.int .i64 1), .lit (.int .i64 0), .lit (.string q.2.2), .lit (.int .i64 0), .lit (.int .i64 0), .lit (.string .empty), .sl [], .sl [], .sl [], .sl []]
def eLs (l : List (ByteArray × Tp × ByteArray)) : List AV := l.map eL
def eN (q : ByteArray × Tp × ByteArray) : AV := .agg [.lit (.string q.1), .lit (.int .i64 q.2.1.form), .lit (.int .i64 q.2.1.num), .lit (.string q.2.1.nam), .sl q.2.1.eArgs, .lit (.string q.2.2)]
def eNs (l : List (ByteArray × Tp × ByteArray)) : List AV := l.map eN
/-- A row of the program: bodies are cores of a form and a number. -/
def eRw (F : Int) (b : Nat → Int) (r : Rw) : AV :=
  .agg [.sl (ePts r.ps), .sl (eLs r.lost), .lit (.int .i64 F), .lit (.int .i64 (b r.body)), .lit (.string .empty), .lit (.int .i64 0), .lit (.int .i64 0), .lit (.string .empty), .sl [], .sl [], .sl [], .sl []]
def eRws (F : Int) (b : Nat → Int) (l : List Rw) : List AV := l.map (eRw F b)
def eRr (r : Rw) : AV := .agg [.sl (ePts r.ps), .sl (eNs r.lost), .lit (.int .i64 (r.body : Nat))]
def eRrs (l : List Rw) : List AV := l.map eRr
theorem uniL (l) : Uni 15 (eLs l) := uniMap (f := eL) (n := 15) (fun _ => rfl) l
theorem uniN (l) : Uni 6 (eNs l) := uniMap (f := eN) (n := 6) (fun _ => rfl) l
theorem uniRw (F b) (l) : Uni 12 (eRws F b l) := uniMap (f := eRw F b) (n := 12) (fun _ => rfl) l
theorem uniRr (l) : Uni 3 (eRrs l) := uniMap (f := eRr) (n := 3) (fun _ => rfl) l

def Pt.opn (p : Pt) : Bool := decide (p.f = 1) || decide (p.f = 2)
theorem open20_ok (p : Pt) : ACall Tryd.prog n_fugueref20_open [ePt p] (.sb p.opn) := by
  refine acall_of_wc ttok mixed Tryd.func75 rfl (by rfl) (Nat.le_of_ble_eq_true rfl) (by kernel_rfl) ?_
  refine ⟨fun h => ?_, fun h => ?_⟩
  · have h := of_decide_eq_false h
    show AV.sb (decide (p.f = 2)) = _
    simp [Pt.opn, h]
  · have h := of_decide_eq_true h
    show AV.sb true = _
    simp [Pt.opn, h]
theorem open_ok (p : Pt) : ACall Tryd.prog n_cover_open [ePt p] (.sb p.opn) := by
  refine acall_of_wc ttok mixed Tryd.func29 rfl (by rfl) (Nat.le_of_ble_eq_true rfl) (by kernel_rfl) ?_
  refine ⟨fun h => ?_, fun h => ?_⟩
  · have h := of_decide_eq_false h
    show AV.sb (decide (p.f = 2)) = _
    simp [Pt.opn, h]
  · have h := of_decide_eq_true h
    show AV.sb true = _
    simp [Pt.opn, h]

/-- The rows that patterns are: bodies are numbered. -/
def rowsFrom (n : Nat) : List Pt → List Rw
  | [] => []
  | p :: l => ⟨[p], [], n⟩ :: rowsFrom (n + 1) l
theorem rowsFrom_len : ∀ (l : List Pt) (n : Nat), (rowsFrom n l).length = l.length
  | [], _ => rfl
  | p :: l, n => by simp [rowsFrom, rowsFrom_len l]
theorem rowsFrom_snoc (p : Pt) : ∀ (l : List Pt) (n : Nat), rowsFrom n (l ++ [p]) = rowsFrom n l ++ [⟨[p], [], n + l.length⟩]
  | [], _ => rfl
  | q :: l, n => by simp only [List.cons_append, rowsFrom, rowsFrom_snoc p l, List.length_cons]; rw [show n + 1 + l.length = n + (l.length + 1) by omega]

theorem rows20_ok (l : List Pt) (hl : l.length < 1000) : ACall Tryd.prog n_fugueref20_Rows [.sl (ePts l)] (.sl (eRrs (rowsFrom 0 l))) := by
  refine acall_of_wc ttok mixed Tryd.func46 rfl (by rfl) (Nat.le_of_ble_eq_true rfl) (by kernel_rfl) ?_
  refine ⟨{k : Nat // k ≤ l.length}, fun k => { vs := [(0, .v (.sl (ePts l))), (3, .v (.sl (eRrs (rowsFrom 0 (l.take k.1))))), (4, .v (.lit (.int .i64 (k.1 : Nat))))], ow := [(3, 0, 4)] },
    fun k => l.length - k.1, ⟨0, Nat.zero_le _⟩, ⟨⟨rfl, rfl, rfl, trivial⟩, ⟨trivial, trivial⟩, rfl⟩, ?_⟩
  rintro ⟨k, hk⟩
  refine ⟨fun h => ?_, fun h => ?_⟩
  · have h : k < l.length := by simp [ePts] at h; omega
    refine ⟨_, by omega, getP h, rfl, ?_⟩
    refine ⟨by simp [eRrs, rowsFrom_len]; omega, uniRr _, uniMap (f := eRr) (fun _ => rfl) [⟨[l[k]], [], k⟩], ?_⟩
    refine ⟨⟨k + 1, h⟩, by simp; omega, ⟨rfl, ?_, ?_, trivial⟩, ⟨rfl, trivial⟩, rfl⟩
    · show _ = SV.v (AV.sl (eRrs (rowsFrom 0 (l.take (k + 1)))))
      rw [List.take_succ_eq_append_getElem h, rowsFrom_snoc, show 0 + (l.take k).length = k by simp; omega]
      unfold eRrs
      rw [List.map_append]; rfl
    · exact congrArg (fun l => SV.v (AV.lit (Value.int .i64 l))) (wrap_succ (k := k) (by omega))
  · have h : k = l.length := by simp [ePts] at h; omega
    subst h
    show AV.sl (eRrs (rowsFrom 0 (l.take l.length))) = _
    rw [List.take_length]

theorem rows_ok (l : List Pt) (hl : l.length < 1000) : ACall Tryd.prog n_cover_rows [.sl (ePts l)] (.sl (eRws 0 (fun _ => 0) (rowsFrom 0 l))) := by
  refine acall_of_wc ttok mixed Tryd.func25 rfl (by rfl) (Nat.le_of_ble_eq_true rfl) (by kernel_rfl) ?_
  refine ⟨{k : Nat // k ≤ l.length}, fun k => { vs := [(3, .v (.sl (eRws 0 (fun _ => 0) (rowsFrom 0 (l.take k.1))))), (6, .v (.sl (ePts l))), (7, .v (.lit (.int .i64 ((ePts l).length : Nat)))), (8, .v (.lit (.int .i64 (k.1 : Nat))))], ow := [(3, 0, 13)] },
    fun k => l.length - k.1, ⟨0, Nat.zero_le _⟩, ⟨⟨rfl, rfl, rfl, rfl, trivial⟩, ⟨trivial, trivial⟩, rfl⟩, ?_⟩
  rintro ⟨k, hk⟩
  refine ⟨fun h => ?_, fun h => ?_⟩
  · have h : k < l.length := by simp [ePts] at h; omega
    refine ⟨_, by omega, getP h, rfl, ?_⟩
    refine ⟨by simp [eRws, rowsFrom_len]; omega, uniRw _ _ _, uniMap (f := eRw 0 (fun _ => 0)) (fun _ => rfl) [⟨[l[k]], [], k⟩], ?_⟩
    refine ⟨⟨k + 1, h⟩, by simp; omega, ⟨?_, rfl, rfl, ?_, trivial⟩, ⟨rfl, trivial⟩, rfl⟩
    · show _ = SV.v (AV.sl (eRws 0 (fun _ => 0) (rowsFrom 0 (l.take (k + 1)))))
      rw [List.take_succ_eq_append_getElem h, rowsFrom_snoc, show 0 + (l.take k).length = k by simp; omega]
      unfold eRws
      rw [List.map_append]; rfl
    · exact congrArg (fun l => SV.v (AV.lit (Value.int .i64 l))) (wrap_succ (k := k) (by omega))
  · have h : k = l.length := by simp [ePts] at h; omega
    subst h
    show AV.sl (eRws 0 (fun _ => 0) (rowsFrom 0 (l.take l.length))) = _
    rw [List.take_length]
end Go.Proofs.YtefdahofpjmnfaaDoor

namespace Go.Proofs.YtefdahofpjmnfaaDoor
open Go Fp
set_option maxRecDepth 10000
set_option maxHeartbeats 8000000

/-- What is looked at in a column. -/
inductive Kn where
  | con (s : ByteArray) (n : Nat)
  | int (n : Int)
  | none
def Kn.form : Kn → Int | con _ _ => 4 | int _ => 3 | none => 1
def Kn.nam : Kn → ByteArray | con s _ => s | _ => .empty
def Kn.num : Kn → Int | con _ n => (n : Nat) | int n => n | none => 0
def Kn.many : Kn → Nat | con _ n => n | _ => 0
def Kn.hits (K : Kn) (p : Pt) : Bool := match K with
  | con s _ => decide (p.f = 4) && decide (p.s = s)
  | int n => decide (p.f = 3) && decide (p.n = n)
  | none => false

/-- The row for what is looked at, if there is one. -/
def part (K : Kn) (a : Nat) (y : ByteArray) (r : Rw) : Option Rw := match r.ps[a]? with
  | none => none
  | some p => if p.opn = true then some ⟨r.ps.take a ++ List.replicate K.many wildP ++ r.ps.drop (a + 1), r.lost ++ (if p.f = 2 then [(p.s, p.t, y)] else []), r.body⟩
    else if K.hits p = true then some ⟨r.ps.take a ++ p.k ++ r.ps.drop (a + 1), r.lost, r.body⟩ else none
def parts (K : Kn) (a : Nat) (y : ByteArray) (l : List Rw) : List Rw := l.filterMap (part K a y)

theorem partsP (l : List Pt) (k : Nat) : List.drop (Int.toNat 0) (List.take (Int.toNat (k : Int)) (ePts l)) = ePts (l.take k) := by simp [ePts]

def rowOr (x : Option Rw) : AV := match x with
  | some r => .tup [eRr r, .sb true]
  | none => .tup [eRr ⟨[], [], 0⟩, .sb false]



theorem apart_ok (K : Kn) (r : Rw) (a : Nat) (y : ByteArray) {p : Pt} (hp : r.ps[a]? = some p) (hf : p.f = 1 ∨ p.f = 2 ∨ p.f = 3 ∧ p.k = [] ∨ p.f = 4) (hkk : p.k.length ≤ 2) (hm : K.many ≤ 2) (hb : r.ps.length < 10000) (hlo : r.lost.length < 10000) :
    ACall Tryd.prog n_fugueref20_apart [eRr r, .lit (.int .i64 (a : Nat)), .lit (.int .i64 K.form), .lit (.string K.nam), .lit (.int .i64 K.num), .lit (.string y)] (rowOr (part K a y r)) := by
  have ha : a < r.ps.length := (List.getElem?_eq_some_iff.1 hp).1
  have hp' : (ePts r.ps)[a]? = some (ePt p) := by simp [ePts, hp]
  have wa : IntKind.i64.wrap ((a : Int) + 1) = ((a + 1 : Nat) : Int) := wrap_succ (by omega)
  have hd2 : List.drop (Int.toNat (IntKind.i64.wrap ((a : Int) + 1))) (List.take (Int.toNat (((ePts r.ps).length : Nat) : Int)) (ePts r.ps)) = ePts (r.ps.drop (a + 1)) := by
    rw [wa]; simp only [Int.toNat_natCast, List.take_length, ePts, List.map_drop]
  have hd1 := partsP r.ps a
  have hlen := lenP r.ps
  unfold part
  rw [hp]
  simp only
  by_cases ho : p.opn = true
  · rw [if_pos ho]
    have hop := open20_ok p
    rw [ho] at hop
    have hmap : ∀ n : Nat, Uni 10 (ePts (List.replicate n wildP)) ∧ (ePts (List.replicate n wildP)).length = n := fun n => ⟨uniP _, by simp [ePts]⟩
    have fin : ∀ (n : Nat) (L : List AV), L = [] ++ List.drop (Int.toNat 0) (List.take (Int.toNat (a : Int)) (ePts r.ps)) ++ ePts (List.replicate n wildP) ++ List.drop (Int.toNat (IntKind.i64.wrap ((a : Int) + 1))) (List.take (Int.toNat (((ePts r.ps).length : Nat) : Int)) (ePts r.ps)) → L = ePts (r.ps.take a ++ List.replicate n wildP ++ r.ps.drop (a + 1)) := fun n L h => by
      rw [h, hd1, hd2]; simp [ePts]
    have lst : ∀ (L : List AV) (M : List (ByteArray × Tp × ByteArray)), L = eNs M → ∀ (Q : List AV) (V : List Pt), Q = ePts V → AV.tup [.agg [.sl Q, .sl L, .lit (.int .i64 (r.body : Nat))], .sb true] = rowOr (some ⟨V, M, r.body⟩) := fun L M h Q V h' => by rw [h, h']; rfl
    refine acall_of_wc ttok mixed Tryd.func97 rfl (by rfl) (Nat.le_of_ble_eq_true rfl) (by kernel_rfl) ?_
    refine ⟨_, by omega, hp', rfl, ?_⟩
    refine .inl ⟨_, hop, ?_⟩
    cases K with
    | none =>
      have uk : Uni 10 ([] : List AV) := uni0 _
      have lk : ([] : List AV).length ≤ 2 := by simp
      refine ⟨fun hbs => ?_, fun hbs => ?_⟩ <;> first | (exfalso; revert hbs; simp [Kn.form]; done) | skip
      refine ⟨fun hbs => ?_, fun hbs => ?_⟩ <;> first | (exfalso; revert hbs; simp [Kn.form]; done) | skip
      refine ⟨fun hbs => ?_, fun hbs => ?_⟩ <;> first | (exfalso; revert hbs; simp [Kn.form]; done) | skip
      refine ⟨by decide, by omega, by rw [hlen]; omega, .inl rfl, ?_⟩
      refine ⟨by rw [hd1]; simp [ePts]; omega, uni0 _, (by rw [hd1]; exact uniP _), ?_⟩
      refine ⟨by rw [hd1]; simp [ePts]; omega, (by rw [hd1]; exact uniApp (uni0 _) (uniP _)), uk, ?_⟩
      refine ⟨by rw [wa]; omega, by rw [wa, hlen]; omega, by rw [hlen]; omega, .inr (uniP _), ?_⟩
      refine ⟨by rw [hd1, hd2]; simp [ePts]; omega, (by rw [hd1]; exact uniApp (uniApp (uni0 _) (uniP _)) uk), (by rw [hd2]; exact uniP _), ?_⟩
      refine ⟨by simp [eNs]; omega, uni0 _, uniN _, ?_⟩
      by_cases h2 : p.f = 2
      · refine ⟨fun hbs => ?_, fun hbs => ?_⟩ <;> first | (exfalso; revert hbs; (simp [h2]); done) | skip
        refine ⟨by simp [eNs]; omega, uniApp (uni0 _) (uniN _), uniMap (f := eN) (fun _ => rfl) [(p.s, p.t, y)], ?_⟩
        exact lst _ _ (by rw [if_pos h2]; unfold eNs; rw [List.map_append, List.nil_append]; rfl) _ _ (fin 0 _ rfl)
      · refine ⟨fun hbs => ?_, fun hbs => ?_⟩ <;> first | (exfalso; revert hbs; (simp [h2]); done) | skip
        exact lst _ _ (by rw [if_neg h2, List.append_nil]; rfl) _ _ (fin 0 _ rfl)
    | int n =>
      have uk : Uni 10 ([] : List AV) := uni0 _
      have lk : ([] : List AV).length ≤ 2 := by simp
      refine ⟨fun hbs => ?_, fun hbs => ?_⟩ <;> first | (exfalso; revert hbs; simp [Kn.form]; done) | skip
      refine ⟨fun hbs => ?_, fun hbs => ?_⟩ <;> first | (exfalso; revert hbs; simp [Kn.form]; done) | skip
      refine ⟨fun hbs => ?_, fun hbs => ?_⟩ <;> first | (exfalso; revert hbs; simp [Kn.form]; done) | skip
      refine ⟨by decide, by omega, by rw [hlen]; omega, .inl rfl, ?_⟩
      refine ⟨by rw [hd1]; simp [ePts]; omega, uni0 _, (by rw [hd1]; exact uniP _), ?_⟩
      refine ⟨by rw [hd1]; simp [ePts]; omega, (by rw [hd1]; exact uniApp (uni0 _) (uniP _)), uk, ?_⟩
      refine ⟨by rw [wa]; omega, by rw [wa, hlen]; omega, by rw [hlen]; omega, .inr (uniP _), ?_⟩
      refine ⟨by rw [hd1, hd2]; simp [ePts]; omega, (by rw [hd1]; exact uniApp (uniApp (uni0 _) (uniP _)) uk), (by rw [hd2]; exact uniP _), ?_⟩
      refine ⟨by simp [eNs]; omega, uni0 _, uniN _, ?_⟩
      by_cases h2 : p.f = 2
      · refine ⟨fun hbs => ?_, fun hbs => ?_⟩ <;> first | (exfalso; revert hbs; (simp [h2]); done) | skip
        refine ⟨by simp [eNs]; omega, uniApp (uni0 _) (uniN _), uniMap (f := eN) (fun _ => rfl) [(p.s, p.t, y)], ?_⟩
        exact lst _ _ (by rw [if_pos h2]; unfold eNs; rw [List.map_append, List.nil_append]; rfl) _ _ (fin 0 _ rfl)
      · refine ⟨fun hbs => ?_, fun hbs => ?_⟩ <;> first | (exfalso; revert hbs; (simp [h2]); done) | skip
        exact lst _ _ (by rw [if_neg h2, List.append_nil]; rfl) _ _ (fin 0 _ rfl)
    | con s n =>
      have hn : n ≤ 2 := hm
      refine ⟨fun hbs => ?_, fun hbs => ?_⟩ <;> first | (exfalso; revert hbs; simp [Kn.form]; done) | skip
      refine ⟨fun hbs => ?_, fun hbs => ?_⟩ <;> first | (exfalso; revert hbs; simp [Kn.form]; done) | skip
      refine ⟨{i : Nat // i ≤ n}, fun i => { vs := [(1, .v (.lit (.int .i64 (a : Nat)))), (4, .v (.lit (.int .i64 (n : Nat)))), (5, .v (.lit (.string y))), (6, .box 0 (eRr r)), (12, .box 0 (eRr ⟨[], [], 0⟩)), (14, .box 0 (ePt p)), (15, .v (.sb true)), (16, .v (.sl (ePts (List.replicate i.1 wildP)))), (17, .v (.lit (.int .i64 (i.1 : Nat))))], ow := [(16, 0, 11)] },
        fun i => n - i.1, ⟨0, Nat.zero_le _⟩, ⟨⟨rfl, rfl, rfl, rfl, rfl, rfl, rfl, rfl, rfl, trivial⟩, ⟨trivial, trivial⟩, rfl⟩, ?_⟩
      rintro ⟨i, hi⟩
      refine ⟨fun h => ?_, fun h => ?_⟩
      · have h := of_decide_eq_true h
        simp only at h
        have h : i < n := by omega
        refine ⟨by rw [(hmap i).2]; simp; omega, uniP _, uniMap (f := ePt) (fun _ => rfl) [wildP], ?_⟩
        refine ⟨⟨i + 1, h⟩, by simp; omega, ⟨rfl, rfl, rfl, rfl, rfl, rfl, rfl, ?_, ?_, trivial⟩, ⟨rfl, trivial⟩, rfl⟩
        · show _ = SV.v (AV.sl (ePts (List.replicate (i + 1) wildP)))
          rw [List.replicate_succ']
          unfold ePts
          rw [List.map_append]; rfl
        · exact congrArg (fun l => SV.v (AV.lit (Value.int .i64 l))) (wrap_succ (k := i) (by omega))
      · have h := of_decide_eq_false h
        simp only at h
        have h : i = n := by omega
        subst h
        have uk : Uni 10 (ePts (List.replicate i wildP)) := uniP _
        have lk : (ePts (List.replicate i wildP)).length ≤ 2 := by rw [(hmap i).2]; omega
        refine ⟨fun hbs => ?_, fun hbs => ?_⟩ <;> first | (exfalso; revert hbs; simp [Kn.form]; done) | skip
        refine ⟨fun hbs => ?_, fun hbs => ?_⟩ <;> first | (exfalso; revert hbs; simp [Kn.form]; done) | skip
        refine ⟨by decide, by omega, by rw [hlen]; omega, .inl rfl, ?_⟩
        refine ⟨by rw [hd1]; simp [ePts]; omega, uni0 _, (by rw [hd1]; exact uniP _), ?_⟩
        refine ⟨by rw [hd1]; simp [ePts]; omega, (by rw [hd1]; exact uniApp (uni0 _) (uniP _)), uk, ?_⟩
        refine ⟨by rw [wa]; omega, by rw [wa, hlen]; omega, by rw [hlen]; omega, .inr (uniP _), ?_⟩
        refine ⟨by rw [hd1, hd2]; simp [ePts]; omega, (by rw [hd1]; exact uniApp (uniApp (uni0 _) (uniP _)) uk), (by rw [hd2]; exact uniP _), ?_⟩
        refine ⟨by simp [eNs]; omega, uni0 _, uniN _, ?_⟩
        by_cases h2 : p.f = 2
        · refine ⟨fun hbs => ?_, fun hbs => ?_⟩ <;> first | (exfalso; revert hbs; (simp [h2]); done) | skip
          refine ⟨by simp [eNs]; omega, uniApp (uni0 _) (uniN _), uniMap (f := eN) (fun _ => rfl) [(p.s, p.t, y)], ?_⟩
          exact lst _ _ (by rw [if_pos h2]; unfold eNs; rw [List.map_append, List.nil_append]; rfl) _ _ (fin _ _ rfl)
        · refine ⟨fun hbs => ?_, fun hbs => ?_⟩ <;> first | (exfalso; revert hbs; (simp [h2]); done) | skip
          exact lst _ _ (by rw [if_neg h2, List.append_nil]; rfl) _ _ (fin _ _ rfl)
  · rw [if_neg ho]
    have ho' : p.opn = false := by simpa using ho
    have hf1 : p.f ≠ 1 := fun h => by simp [Pt.opn, h] at ho
    have hf2 : p.f ≠ 2 := fun h => by simp [Pt.opn, h] at ho
    have hop := open20_ok p
    rw [ho'] at hop
    refine acall_of_wc ttok mixed Tryd.func97 rfl (by rfl) (Nat.le_of_ble_eq_true rfl) (by kernel_rfl) ?_
    refine ⟨_, by omega, hp', rfl, ?_⟩
    refine .inl ⟨_, hop, ?_⟩
    have fin : ∀ (L : List AV), L = [] ++ List.drop (Int.toNat 0) (List.take (Int.toNat (a : Int)) (ePts r.ps)) ++ p.eKids ++ List.drop (Int.toNat (IntKind.i64.wrap ((a : Int) + 1))) (List.take (Int.toNat (((ePts r.ps).length : Nat) : Int)) (ePts r.ps)) → L = ePts (r.ps.take a ++ p.k ++ r.ps.drop (a + 1)) := fun L h => by
      rw [h, hd1, hd2, p.eKids_eq]; simp [ePts]
    have uk : Uni 10 p.eKids := by rw [p.eKids_eq]; exact uniP _
    have lk : p.eKids.length ≤ 2 := by rw [p.eKids_eq, lenP]; exact hkk
    cases K with
    | none =>
      refine ⟨fun hbs => ?_, fun hbs => ?_⟩ <;> first | (exfalso; revert hbs; simp [Kn.form]; done) | skip
      refine ⟨fun hbs => ?_, fun hbs => ?_⟩ <;> first | (exfalso; revert hbs; simp [Kn.form]; done) | skip
      refine ⟨fun hbs => ?_, fun hbs => ?_⟩ <;> first | (exfalso; revert hbs; (simp [Kn.form, hf1]); done) | skip
      exact rfl
    | int n =>
      refine ⟨fun hbs => ?_, fun hbs => ?_⟩ <;> first | (exfalso; revert hbs; simp [Kn.form]; done) | skip
      refine ⟨fun hbs => ?_, fun hbs => ?_⟩ <;> first | (exfalso; revert hbs; simp [Kn.form]; done) | skip
      by_cases h3 : p.f = 3
      · refine ⟨fun hbs => ?_, fun hbs => ?_⟩ <;> first | (exfalso; revert hbs; (simp [Kn.form, h3]); done) | skip
        refine ⟨fun hbs => ?_, fun hbs => ?_⟩ <;> first | (exfalso; revert hbs; simp [Kn.form]; done) | skip
        refine ⟨fun hbs => ?_, fun hbs => ?_⟩ <;> first | (exfalso; revert hbs; simp [Kn.form]; done) | skip
        by_cases hn : p.n = n
        · rw [if_pos (by simp [Kn.hits, h3, hn])]
          refine ⟨fun hbs => ?_, fun hbs => ?_⟩ <;> first | (exfalso; revert hbs; (simp [Kn.num, hn]); done) | skip
          refine ⟨fun hbs => ?_, fun hbs => ?_⟩ <;> first | (exfalso; revert hbs; simp [Kn.form]; done) | skip
          refine ⟨fun hbs => ?_, fun hbs => ?_⟩ <;> first | (exfalso; revert hbs; simp [Kn.form]; done) | skip
          refine ⟨by decide, by omega, by rw [hlen]; omega, .inl rfl, ?_⟩
          refine ⟨by rw [hd1]; simp [ePts]; omega, uni0 _, (by rw [hd1]; exact uniP _), ?_⟩
          refine ⟨by rw [hd1]; simp [ePts]; omega, (by rw [hd1]; exact uniApp (uni0 _) (uniP _)), uk, ?_⟩
          refine ⟨by rw [wa]; omega, by rw [wa, hlen]; omega, by rw [hlen]; omega, .inr (uniP _), ?_⟩
          refine ⟨by rw [hd1, hd2]; simp [ePts]; omega, (by rw [hd1]; exact uniApp (uniApp (uni0 _) (uniP _)) uk), (by rw [hd2]; exact uniP _), ?_⟩
          refine ⟨by simp [eNs]; omega, uni0 _, uniN _, ?_⟩
          refine ⟨fun hbs => ?_, fun hbs => ?_⟩ <;> first | (exfalso; revert hbs; (simp [h3]); done) | skip
          exact congrArg (fun l => AV.tup [.agg [.sl l, .sl (eNs r.lost), .lit (.int .i64 (r.body : Nat))], .sb true]) (fin _ rfl)
        · rw [if_neg (by simp [Kn.hits, h3, hn])]
          refine ⟨fun hbs => ?_, fun hbs => ?_⟩ <;> first | (exfalso; revert hbs; (simp [Kn.num, hn]); done) | skip
          exact rfl
      · rw [if_neg (by simp [Kn.hits, h3])]
        refine ⟨fun hbs => ?_, fun hbs => ?_⟩ <;> first | (exfalso; revert hbs; (simp [Kn.form, h3]); done) | skip
        exact rfl
    | con s n =>
      refine ⟨fun hbs => ?_, fun hbs => ?_⟩ <;> first | (exfalso; revert hbs; simp [Kn.form]; done) | skip
      refine ⟨fun hbs => ?_, fun hbs => ?_⟩ <;> first | (exfalso; revert hbs; simp [Kn.form]; done) | skip
      refine ⟨fun hbs => ?_, fun hbs => ?_⟩ <;> first | (exfalso; revert hbs; simp [Kn.form]; done) | skip
      by_cases h4 : p.f = 4
      · refine ⟨fun hbs => ?_, fun hbs => ?_⟩ <;> first | (exfalso; revert hbs; (simp [Kn.form, h4]); done) | skip
        refine ⟨fun hbs => ?_, fun hbs => ?_⟩ <;> first | (exfalso; revert hbs; simp [Kn.form]; done) | skip
        by_cases hs : p.s = s
        · rw [if_pos (by simp [Kn.hits, h4, hs])]
          refine ⟨fun hbs => ?_, fun hbs => ?_⟩ <;> first | (exfalso; revert hbs; (simp [Kn.nam, hs]); done) | skip
          refine ⟨fun hbs => ?_, fun hbs => ?_⟩ <;> first | (exfalso; revert hbs; simp [Kn.form]; done) | skip
          refine ⟨fun hbs => ?_, fun hbs => ?_⟩ <;> first | (exfalso; revert hbs; simp [Kn.form]; done) | skip
          refine ⟨fun hbs => ?_, fun hbs => ?_⟩ <;> first | (exfalso; revert hbs; simp [Kn.form]; done) | skip
          refine ⟨by decide, by omega, by rw [hlen]; omega, .inl rfl, ?_⟩
          refine ⟨by rw [hd1]; simp [ePts]; omega, uni0 _, (by rw [hd1]; exact uniP _), ?_⟩
          refine ⟨by rw [hd1]; simp [ePts]; omega, (by rw [hd1]; exact uniApp (uni0 _) (uniP _)), uk, ?_⟩
          refine ⟨by rw [wa]; omega, by rw [wa, hlen]; omega, by rw [hlen]; omega, .inr (uniP _), ?_⟩
          refine ⟨by rw [hd1, hd2]; simp [ePts]; omega, (by rw [hd1]; exact uniApp (uniApp (uni0 _) (uniP _)) uk), (by rw [hd2]; exact uniP _), ?_⟩
          refine ⟨by simp [eNs]; omega, uni0 _, uniN _, ?_⟩
          refine ⟨fun hbs => ?_, fun hbs => ?_⟩ <;> first | (exfalso; revert hbs; (simp [h4]); done) | skip
          exact congrArg (fun l => AV.tup [.agg [.sl l, .sl (eNs r.lost), .lit (.int .i64 (r.body : Nat))], .sb true]) (fin _ rfl)
        · rw [if_neg (by simp [Kn.hits, h4, hs])]
          refine ⟨fun hbs => ?_, fun hbs => ?_⟩ <;> first | (exfalso; revert hbs; (simp [Kn.nam, hs]); done) | skip
          exact rfl
      · rw [if_neg (by simp [Kn.hits, h4])]
        refine ⟨fun hbs => ?_, fun hbs => ?_⟩ <;> first | (exfalso; revert hbs; (simp [Kn.form, h4]); done) | skip
        exact rfl
end Go.Proofs.YtefdahofpjmnfaaDoor

namespace Go.Proofs.YtefdahofpjmnfaaDoor
open Go Fp
set_option maxRecDepth 10000
set_option maxHeartbeats 8000000

/-! The world's data types. -/
def eCon (q : ByteArray × List Tp) : AV := .agg [.lit (.string q.1), .lit (.int .i64 0), .sl (eTys q.2)]
def eCons (l : List (ByteArray × List Tp)) : List AV := l.map eCon
abbrev wsBool : List (ByteArray × List Tp) := [(sFalse, []), (sTrue, [])]
abbrev wsL : List (ByteArray × List Tp) := [(sN, []), (sC, [.var sa, .app (.con sL) (.var sa)])]
abbrev wsT : List (ByteArray × List Tp) := [(sA, []), (sB, [.con sInt, .con sBool]), (sD, [.con sT])]
def eData (s : ByteArray) (a : Int) (vs : List ByteArray) (ks : List AV) (cs : List (ByteArray × List Tp)) : AV :=
  .agg [.lit (.string s), .lit (.int .i64 a), .sl (eSs vs), .sl ks, .sl (eCons cs)]
def dBool : AV := eData sBool 0 [] [] wsBool
def dL : AV := eData sL 1 [sa] [.agg [.sl []]] wsL
def dT : AV := eData sT 2 [] [] wsT
def aProg : AV := .agg [.sl [dL, dT], .sl [], .sl [], .sl []]

theorem world_ok : ACall Tryd.prog n_fugueref14_World [] aProg := by
  refine acall_of_wc ttok mixed Tryd.func43 rfl (by rfl) (Nat.le_of_ble_eq_true rfl) (by kernel_rfl) ?_
  refine .inl ⟨_, given_ok sL [.var sa] (by decide), ?_⟩
  refine .inl ⟨_, worldType_ok 0 (by decide), .inl ⟨_, worldType_ok 1 (by decide), .inl ⟨_, worldType_ok 3 (by decide), ?_⟩⟩⟩
  exact rfl
theorem program_ok : ACall Tryd.prog n_fugueref20_Program [] aProg := by
  refine acall_of_wc ttok mixed Tryd.func10 rfl (by rfl) (Nat.le_of_ble_eq_true rfl) (by kernel_rfl) ?_
  exact .inl ⟨_, world_ok, rfl⟩
theorem datas_ok : ACall Tryd.prog n_fugueref20_Datas [] (.sl [dBool, dL, dT]) := by
  refine acall_of_wc ttok mixed Tryd.func13 rfl (by rfl) (Nat.le_of_ble_eq_true rfl) (by kernel_rfl) ?_
  refine .inl ⟨_, program_ok, ?_⟩
  refine ⟨by decide, ?_, ?_, ?_⟩
  · exact uniMap (f := fun x : AV => dBool) (fun _ => rfl) [dBool]
  · intro x hx; simp at hx; rcases hx with rfl | rfl <;> rfl
  exact rfl

/-- The row has the column, and its pattern there is one. -/
def colOk (a : Nat) (r : Rw) : Prop := ∃ p, r.ps[a]? = some p ∧ (p.f = 1 ∨ p.f = 2 ∨ p.f = 3 ∧ p.k = [] ∨ p.f = 4) ∧ p.k.length ≤ 2 ∧ r.ps.length < 10000 ∧ r.lost.length < 10000

theorem getRr {l : List Rw} {k : Nat} (h : k < l.length) : (eRrs l)[k]? = some (eRr l[k]) := getM h
theorem parts_le (K : Kn) (a : Nat) (y : ByteArray) (l : List Rw) : (parts K a y l).length ≤ l.length := List.length_filterMap_le _ _
theorem parts_snoc (K : Kn) (a : Nat) (y : ByteArray) (l : List Rw) (r : Rw) : parts K a y (l ++ [r]) = parts K a y l ++ (match part K a y r with | some x => [x] | none => []) := by
  unfold parts
  rw [List.filterMap_append]
  congr 1
  cases h : part K a y r <;> simp [List.filterMap_cons, h]

theorem Apart_ok (K : Kn) (l : List Rw) (a : Nat) (y : ByteArray) (hc : ∀ r ∈ l, colOk a r) (hm : K.many ≤ 2) (hb : l.length < 10000) :
    ACall Tryd.prog n_fugueref20_Apart [.sl (eRrs l), .lit (.int .i64 (a : Nat)), .lit (.int .i64 K.form), .lit (.string K.nam), .lit (.int .i64 K.num), .lit (.string y)] (.sl (eRrs (parts K a y l))) := by
  refine acall_of_wc ttok mixed Tryd.func79 rfl (by rfl) (Nat.le_of_ble_eq_true rfl) (by kernel_rfl) ?_
  refine ⟨{k : Nat // k ≤ l.length}, fun k => { vs := [(0, .v (.sl (eRrs l))), (1, .v (.lit (.int .i64 (a : Nat)))), (2, .v (.lit (.int .i64 K.form))), (3, .v (.lit (.string K.nam))), (4, .v (.lit (.int .i64 K.num))), (5, .v (.lit (.string y))), (13, .v (.sl (eRrs (parts K a y (l.take k.1))))), (14, .v (.lit (.int .i64 (k.1 : Nat))))], ow := [(13, 0, 4)] },
    fun k => l.length - k.1, ⟨0, Nat.zero_le _⟩, ⟨⟨rfl, rfl, rfl, rfl, rfl, rfl, rfl, rfl, trivial⟩, ⟨trivial, trivial⟩, rfl⟩, ?_⟩
  rintro ⟨k, hk⟩
  refine ⟨fun h => ?_, fun h => ?_⟩
  · have h : k < l.length := by have h := of_decide_eq_true h; simp [eRrs] at h; omega
    obtain ⟨p, p1, p2, p3, p4, p5⟩ := hc _ (List.getElem_mem h)
    have hq := apart_ok K l[k] a y p1 p2 p3 hm p4 p5
    have hs := parts_snoc K a y (l.take k) l[k]
    rw [← List.take_succ_eq_append_getElem h] at hs
    have hle := parts_le K a y (l.take k)
    refine ⟨_, by omega, getRr h, rfl, ?_⟩
    refine .inl ⟨_, hq, ?_⟩
    cases hx : part K a y l[k] with
    | none =>
      rw [hx] at hs
      simp only [List.append_nil] at hs
      refine ⟨fun hbs => ?_, fun hbs => ?_⟩ <;> first | (exfalso; revert hbs; simp [Kn.form]; done) | skip
      refine ⟨⟨k + 1, h⟩, by simp; omega, ⟨rfl, rfl, rfl, rfl, rfl, rfl, ?_, ?_, trivial⟩, ⟨rfl, trivial⟩, rfl⟩
      · show _ = SV.v (AV.sl (eRrs (parts K a y (l.take (k + 1)))))
        rw [hs]; rfl
      · exact congrArg (fun l => SV.v (AV.lit (Value.int .i64 l))) (wrap_succ (k := k) (by omega))
    | some x =>
      rw [hx] at hs
      refine ⟨fun hbs => ?_, fun hbs => ?_⟩ <;> first | (exfalso; revert hbs; simp [Kn.form]; done) | skip
      refine ⟨by simp [eRrs] at hle ⊢; omega, uniRr _, uniMap (f := eRr) (fun _ => rfl) [x], ?_⟩
      refine ⟨⟨k + 1, h⟩, by simp; omega, ⟨rfl, rfl, rfl, rfl, rfl, rfl, ?_, ?_, trivial⟩, ⟨rfl, trivial⟩, rfl⟩
      · show _ = SV.v (AV.sl (eRrs (parts K a y (l.take (k + 1)))))
        rw [hs]; unfold eRrs; rw [List.map_append]; rfl
      · exact congrArg (fun l => SV.v (AV.lit (Value.int .i64 l))) (wrap_succ (k := k) (by omega))
  · have h : k = l.length := by have h := of_decide_eq_false h; simp [eRrs] at h; omega
    subst h
    show AV.sl (eRrs (parts K a y (l.take l.length))) = _
    rw [List.take_length]
end Go.Proofs.YtefdahofpjmnfaaDoor

namespace Go.Proofs.YtefdahofpjmnfaaDoor
open Go Fp
set_option maxRecDepth 10000
set_option maxHeartbeats 8000000

theorem fs_at {α β : Type} {f : α → Option β} {b : β} : ∀ {l : List α} {k : Nat} {x : α}, l[k]? = some x → (∀ j y, j < k → l[j]? = some y → f y = none) → f x = some b → l.findSome? f = some b
  | [], k, x, h, _, _ => by simp at h
  | y :: l, 0, x, h, _, h2 => by simp at h; subst h; simp [List.findSome?, h2]
  | y :: l, k + 1, x, h, h1, h2 => by
    have h0 := h1 0 y (by omega) rfl
    simp only [List.findSome?, h0]
    exact fs_at (k := k) (by simpa using h) (fun j z hj hz => h1 (j + 1) z (by omega) (by simpa using hz)) h2
theorem fs_none {α β : Type} {f : α → Option β} {l : List α} (h : ∀ j y, j < l.length → l[j]? = some y → f y = none) : l.findSome? f = none := by
  rw [List.findSome?_eq_none_iff]
  intro x hx
  obtain ⟨j, hj⟩ := List.getElem?_of_mem hx
  exact h j x (List.getElem?_eq_some_iff.1 hj).1 hj

abbrev DT := ByteArray × Int × List ByteArray × List AV × List (ByteArray × List Tp)
def eD (q : DT) : AV := eData q.1 q.2.1 q.2.2.1 q.2.2.2.1 q.2.2.2.2
def wTab : List DT := [(sBool, 0, [], [], wsBool), (sL, 1, [sa], [.agg [.sl []]], wsL), (sT, 2, [], [], wsT)]
def hasCon (s : ByteArray) (q : DT) : Option (List (ByteArray × List Tp)) := if ∃ c ∈ q.2.2.2.2, c.1 = s then some q.2.2.2.2 else none
def findCons (s : ByteArray) : Option (List (ByteArray × List Tp)) := wTab.findSome? (hasCon s)
def rowCons (a : Nat) (r : Rw) : Option (List (ByteArray × List Tp)) := match r.ps[a]? with
  | some p => if p.f = 4 then findCons p.s else none
  | none => none
def colCons (a : Nat) (l : List Rw) : Option (List (ByteArray × List Tp)) := l.findSome? (rowCons a)
def consOr : Option (List (ByteArray × List Tp)) → AV
  | some cs => .tup [.sl (eCons cs), .sb true]
  | none => .tup [.sl [], .sb false]

theorem Cons_ok (l : List Rw) (a : Nat) (hc : ∀ r ∈ l, colOk a r) (hb : l.length < 10000) :
    ACall Tryd.prog n_fugueref20_Cons [.sl (wTab.map eD), .sl (eRrs l), .lit (.int .i64 (a : Nat))] (consOr (colCons a l)) := by
  refine acall_of_wc ttok mixed Tryd.func77 rfl (by rfl) (Nat.le_of_ble_eq_true rfl) (by kernel_rfl) ?_
  have hD : wTab.length = 3 := rfl
  refine ⟨{k : Nat // k ≤ l.length ∧ ∀ j y, j < k → l[j]? = some y → rowCons a y = none}, fun k => { vs := [(0, .v (.sl (wTab.map eD))), (1, .v (.sl (eRrs l))), (2, .v (.lit (.int .i64 (a : Nat)))), (8, .v (.lit (.int .i64 (k.1 : Nat))))] },
    fun k => l.length - k.1, ⟨0, Nat.zero_le _, fun j y h => by omega⟩, ⟨⟨rfl, rfl, rfl, rfl, trivial⟩, trivial, rfl⟩, ?_⟩
  rintro ⟨k, hk, hinv⟩
  refine ⟨fun h => ?_, fun h => ?_⟩
  · have h : k < l.length := by have h := of_decide_eq_true h; simp [eRrs] at h; omega
    obtain ⟨p, p1, p2, p3, p4, p5⟩ := hc _ (List.getElem_mem h)
    have ha : a < l[k].ps.length := (List.getElem?_eq_some_iff.1 p1).1
    have hp' : (ePts l[k].ps)[a]? = some (ePt p) := by simp [ePts, p1]
    have hrow : rowCons a l[k] = if p.f = 4 then findCons p.s else none := by unfold rowCons; rw [p1]
    have next : rowCons a l[k] = none → ∀ j y, j < k + 1 → l[j]? = some y → rowCons a y = none := fun hn j y hj hy => by
      rcases Nat.lt_or_ge j k with hlt | hge
      · exact hinv j y hlt hy
      · have : j = k := by omega
        subst this
        rw [List.getElem?_eq_getElem h] at hy; injection hy with hy; subst hy; exact hn
    refine ⟨_, by omega, getRr h, rfl, ?_⟩
    refine ⟨_, by omega, hp', rfl, ?_⟩
    refine ⟨{d : Nat // d ≤ 3 ∧ ∀ j y, j < d → wTab[j]? = some y → hasCon p.s y = none}, fun d => { vs := [(0, .v (.sl (wTab.map eD))), (1, .v (.sl (eRrs l))), (2, .v (.lit (.int .i64 (a : Nat)))), (8, .v (.lit (.int .i64 (k : Nat)))), (9, .box 0 (ePt p)), (10, .v (.lit (.int .i64 (d.1 : Nat))))] },
      fun d => 3 - d.1, ⟨0, Nat.zero_le _, fun j y h => by omega⟩, ⟨⟨rfl, rfl, rfl, rfl, rfl, rfl, trivial⟩, trivial, rfl⟩, ?_⟩
    rintro ⟨d, hd, hdinv⟩
    refine ⟨fun h1 => ?_, fun h1 => ?_⟩
    · have h1 : d < 3 := by have h1 := of_decide_eq_true h1; simp [wTab] at h1; omega
      have hgd : (wTab.map eD)[d]? = some (eD wTab[d]) := getM (by rw [hD]; exact h1)
      have hsm : wTab[d].2.2.2.2.length ≤ 3 := by
        match d, h1 with
        | 0, _ => exact Nat.le_of_ble_eq_true rfl
        | 1, _ => exact Nat.le_of_ble_eq_true rfl
        | 2, _ => exact Nat.le_of_ble_eq_true rfl
        | d + 3, h => omega
      refine ⟨fun h4 => ?_, fun h4 => ?_⟩
      · have h4 : p.f = 4 := of_decide_eq_true h4
        refine ⟨{i : Nat // i ≤ wTab[d].2.2.2.2.length ∧ ∀ j c, j < i → wTab[d].2.2.2.2[j]? = some c → c.1 ≠ p.s}, fun i => { vs := [(0, .v (.sl (wTab.map eD))), (1, .v (.sl (eRrs l))), (2, .v (.lit (.int .i64 (a : Nat)))), (8, .v (.lit (.int .i64 (k : Nat)))), (9, .box 0 (ePt p)), (10, .v (.lit (.int .i64 (d : Nat)))), (11, .v (.lit (.int .i64 (i.1 : Nat))))] },
          fun i => wTab[d].2.2.2.2.length - i.1, ⟨0, Nat.zero_le _, fun j y h => by omega⟩, ⟨⟨rfl, rfl, rfl, rfl, rfl, rfl, rfl, trivial⟩, trivial, rfl⟩, ?_⟩
        rintro ⟨i, hi, hiinv⟩
        refine ⟨_, by omega, hgd, rfl, ?_⟩
        refine ⟨fun h2 => ?_, fun h2 => ?_⟩
        · have h2 : i < wTab[d].2.2.2.2.length := by have h2 := of_decide_eq_true h2; simp only [eCons, List.length_map] at h2; omega
          refine ⟨_, by omega, hgd, rfl, ?_⟩
          refine ⟨_, by omega, getM (f := eCon) h2, rfl, ?_⟩
          refine ⟨fun h3 => ?_, fun h3 => ?_⟩
          · have h3 : wTab[d].2.2.2.2[i].1 = p.s := of_decide_eq_true h3
            refine ⟨_, by omega, hgd, rfl, ?_⟩
            have e1 : hasCon p.s wTab[d] = some wTab[d].2.2.2.2 := if_pos ⟨_, List.getElem_mem h2, h3⟩
            have e2 : findCons p.s = some wTab[d].2.2.2.2 := fs_at (List.getElem?_eq_getElem (by rw [hD]; exact h1)) hdinv e1
            have e3 : colCons a l = some wTab[d].2.2.2.2 := fs_at (List.getElem?_eq_getElem h) hinv (by rw [hrow, if_pos h4, e2])
            rw [e3]
            exact rfl
          · have h3 : wTab[d].2.2.2.2[i].1 ≠ p.s := of_decide_eq_false h3
            refine ⟨⟨i + 1, h2, fun j c hj hcj => ?_⟩, by simp; omega, ⟨rfl, rfl, rfl, rfl, rfl, rfl, congrArg (fun l => SV.v (AV.lit (Value.int .i64 l))) (wrap_succ (k := i) (by omega)), trivial⟩, trivial, rfl⟩
            rcases Nat.lt_or_ge j i with hlt | hge
            · exact hiinv j c hlt hcj
            · have : j = i := by omega
              subst this
              rw [List.getElem?_eq_getElem h2] at hcj; injection hcj with hcj; subst hcj; exact h3
        · have h2 : i = wTab[d].2.2.2.2.length := by have h2 := of_decide_eq_false h2; simp only [eCons, List.length_map] at h2; omega
          refine ⟨⟨d + 1, h1, fun j y hj hy => ?_⟩, by simp; omega, ⟨rfl, rfl, rfl, rfl, rfl, congrArg (fun l => SV.v (AV.lit (Value.int .i64 l))) (wrap_succ (k := d) (by omega)), trivial⟩, trivial, rfl⟩
          rcases Nat.lt_or_ge j d with hlt | hge
          · exact hdinv j y hlt hy
          · have : j = d := by omega
            subst this
            rw [List.getElem?_eq_getElem (by rw [hD]; exact h1)] at hy; injection hy with hy; subst hy
            refine if_neg ?_
            rintro ⟨c, hcm, hcs⟩
            obtain ⟨q, hq⟩ := List.getElem?_of_mem hcm
            exact hiinv q c (by have := (List.getElem?_eq_some_iff.1 hq).1; omega) hq hcs
      · have h4 : p.f ≠ 4 := of_decide_eq_false h4
        exact ⟨⟨k + 1, h, next (by rw [hrow, if_neg h4])⟩, by simp; omega, ⟨rfl, rfl, rfl, congrArg (fun l => SV.v (AV.lit (Value.int .i64 l))) (wrap_succ (k := k) (by omega)), trivial⟩, trivial, rfl⟩
    · have h1 : d = 3 := by have h1 := of_decide_eq_false h1; simp [wTab] at h1; omega
      have e2 : findCons p.s = none := fs_none (fun j y hj hy => hdinv j y (by rw [h1]; exact hj) hy)
      refine ⟨⟨k + 1, h, next (by rw [hrow, e2]; split <;> rfl)⟩, by simp; omega, ⟨rfl, rfl, rfl, congrArg (fun l => SV.v (AV.lit (Value.int .i64 l))) (wrap_succ (k := k) (by omega)), trivial⟩, trivial, rfl⟩
  · have h : k = l.length := by have h := of_decide_eq_false h; simp [eRrs] at h; omega
    have e3 : colCons a l = none := fs_none (fun j y hj hy => hinv j y (by omega) hy)
    rw [e3]
    exact rfl
end Go.Proofs.YtefdahofpjmnfaaDoor

namespace Go.Proofs.YtefdahofpjmnfaaDoor
open Go Fp
set_option maxRecDepth 10000
set_option maxHeartbeats 8000000

theorem memT {x : Int} {out : List Int} {j : Nat} (h : j < out.length) : (x ∈ out.take (j + 1)) = (x ∈ out.take j ∨ x = out[j]) := by
  rw [List.take_succ_eq_append_getElem h, List.mem_append, List.mem_singleton]

/-- The integers of a column, one more row. -/
def intStep (a : Nat) (out : List Int) (r : Rw) : List Int := match r.ps[a]? with
  | some p => if p.f = 3 ∧ p.n ∉ out then out ++ [p.n] else out
  | none => out
def intsOf (a : Nat) (l : List Rw) : List Int := l.foldl (intStep a) []
theorem intStep_le (a : Nat) (out : List Int) (r : Rw) : (intStep a out r).length ≤ out.length + 1 := by
  unfold intStep
  split
  · split <;> simp
  · omega
theorem ints_le (a : Nat) : ∀ (l : List Rw) (out : List Int), (l.foldl (intStep a) out).length ≤ out.length + l.length
  | [], out => by simp
  | r :: l, out => by have := ints_le a l (intStep a out r); have := intStep_le a out r; simp; omega

theorem Ints_ok (l : List Rw) (a : Nat) (hc : ∀ r ∈ l, colOk a r) (hb : l.length < 10000) :
    ACall Tryd.prog n_fugueref20_Ints [.sl (eRrs l), .lit (.int .i64 (a : Nat))] (.sl (eIs (intsOf a l))) := by
  refine acall_of_wc ttok mixed Tryd.func81 rfl (by rfl) (Nat.le_of_ble_eq_true rfl) (by kernel_rfl) ?_
  refine ⟨{k : Nat // k ≤ l.length}, fun k => { vs := [(0, .v (.sl (eRrs l))), (1, .v (.lit (.int .i64 (a : Nat)))), (5, .v (.sl (eIs (intsOf a (l.take k.1))))), (6, .v (.lit (.int .i64 (k.1 : Nat))))], ow := [(5, 0, 2)] },
    fun k => l.length - k.1, ⟨0, Nat.zero_le _⟩, ⟨⟨rfl, rfl, rfl, rfl, trivial⟩, ⟨trivial, trivial⟩, rfl⟩, ?_⟩
  rintro ⟨k, hk⟩
  refine ⟨fun h => ?_, fun h => ?_⟩
  · have h : k < l.length := by have h := of_decide_eq_true h; simp [eRrs] at h; omega
    obtain ⟨p, p1, p2, p3, p4, p5⟩ := hc _ (List.getElem_mem h)
    have ha : a < l[k].ps.length := (List.getElem?_eq_some_iff.1 p1).1
    have hp' : (ePts l[k].ps)[a]? = some (ePt p) := by simp [ePts, p1]
    have hst : intsOf a (l.take (k + 1)) = intStep a (intsOf a (l.take k)) l[k] := by unfold intsOf; rw [List.take_succ_eq_append_getElem h, List.foldl_append]; rfl
    have hle : (intsOf a (l.take k)).length ≤ k := by have := ints_le a (l.take k) []; simp at this; exact Nat.le_trans this (by omega)
    generalize intsOf a (l.take k) = out at hst hle
    have hlen : (eIs out).length = out.length := by simp [eIs]
    have hstep : intStep a out l[k] = if p.f = 3 ∧ p.n ∉ out then out ++ [p.n] else out := by unfold intStep; rw [p1]
    refine ⟨_, by omega, getRr h, rfl, ?_⟩
    refine ⟨_, by omega, hp', rfl, ?_⟩
    refine ⟨{j : Nat // j ≤ out.length}, fun j => { vs := [(0, .v (.sl (eRrs l))), (1, .v (.lit (.int .i64 (a : Nat)))), (5, .v (.sl (eIs out))), (6, .v (.lit (.int .i64 (k : Nat)))), (7, .box 0 (ePt p)), (8, .v (.sb (decide (p.n ∈ out.take j.1)))), (9, .v (.lit (.int .i64 (j.1 : Nat))))], ow := [(5, 0, 2)] },
      fun j => out.length - j.1, ⟨0, Nat.zero_le _⟩, ⟨⟨rfl, rfl, rfl, rfl, rfl, ?_, rfl, trivial⟩, ⟨rfl, trivial⟩, rfl⟩, ?_⟩
    · exact rfl
    rintro ⟨j, hj⟩
    refine ⟨fun h1 => ?_, fun h1 => ?_⟩
    · have h1 : j < out.length := by have h1 := of_decide_eq_true h1; rw [hlen] at h1; simp only at h1; omega
      refine ⟨fun h2 => ?_, fun h2 => ?_⟩
      · have h2 := of_decide_eq_false h2
        refine ⟨_, by omega, getI h1, rfl, ?_⟩
        refine ⟨⟨j + 1, h1⟩, by simp; omega, ⟨rfl, rfl, rfl, rfl, rfl, ?_, congrArg (fun l => SV.v (AV.lit (Value.int .i64 l))) (wrap_succ (k := j) (by omega)), trivial⟩, ⟨rfl, trivial⟩, rfl⟩
        refine congrArg (fun b => SV.v (AV.sb b)) ?_
        simp only at h2
        by_cases he : out[j] = p.n
        · simp only [memT h1, he, or_true]
        · have he' : p.n ≠ out[j] := fun h => he h.symm
          simp only [memT h1, he, h2, he', or_false]
      · have h2 := of_decide_eq_true h2
        refine ⟨⟨j + 1, h1⟩, by simp; omega, ⟨rfl, rfl, rfl, rfl, rfl, ?_, congrArg (fun l => SV.v (AV.lit (Value.int .i64 l))) (wrap_succ (k := j) (by omega)), trivial⟩, ⟨rfl, trivial⟩, rfl⟩
        refine congrArg (fun b => SV.v (AV.sb b)) ?_
        simp only at h2
        simp [memT h1, h2]
    · have h1 : j = out.length := by have h1 := of_decide_eq_false h1; rw [hlen] at h1; simp only at h1; omega
      subst h1
      have idx : SV.v (AV.lit (Value.int .i64 (IntKind.i64.wrap ((k : Int) + 1)))) = SV.v (AV.lit (Value.int .i64 ((k + 1 : Nat) : Int))) := congrArg (fun l => SV.v (AV.lit (Value.int .i64 l))) (wrap_succ (k := k) (by omega))
      refine ⟨fun h3 => ?_, fun h3 => ?_⟩
      · have h3 : p.f = 3 := of_decide_eq_true h3
        refine ⟨fun h4 => ?_, fun h4 => ?_⟩
        · have h4 : p.n ∉ out := by simpa using h4
          refine ⟨by rw [hlen]; simp; omega, uniI _, uniI [p.n], ?_⟩
          refine ⟨⟨k + 1, h⟩, by simp; omega, ⟨rfl, rfl, ?_, idx, trivial⟩, ⟨rfl, trivial⟩, rfl⟩
          show _ = SV.v (AV.sl (eIs (intsOf a (l.take (k + 1)))))
          rw [hst, hstep, if_pos ⟨h3, h4⟩]
          unfold eIs
          rw [List.map_append]; rfl
        · have h4 : p.n ∈ out := by simpa using h4
          refine ⟨⟨k + 1, h⟩, by simp; omega, ⟨rfl, rfl, ?_, idx, trivial⟩, ⟨rfl, trivial⟩, rfl⟩
          show _ = SV.v (AV.sl (eIs (intsOf a (l.take (k + 1)))))
          rw [hst, hstep, if_neg (fun h => h.2 h4)]
          rfl
      · have h3 : p.f ≠ 3 := of_decide_eq_false h3
        refine ⟨⟨k + 1, h⟩, by simp; omega, ⟨rfl, rfl, ?_, idx, trivial⟩, ⟨rfl, trivial⟩, rfl⟩
        show _ = SV.v (AV.sl (eIs (intsOf a (l.take (k + 1)))))
        rw [hst, hstep, if_neg (fun h => h3 h.1)]
        rfl
  · have h : k = l.length := by have h := of_decide_eq_false h; simp [eRrs] at h; omega
    subst h
    show AV.sl (eIs (intsOf a (l.take l.length))) = _
    rw [List.take_length]
end Go.Proofs.YtefdahofpjmnfaaDoor

namespace Go.Proofs.YtefdahofpjmnfaaDoor
open Go Fp
set_option maxRecDepth 10000
set_option maxHeartbeats 4000000

/-- Patterns are of types, side by side. -/
def TyPs : List Nat → List Pt → Prop
  | [], [] => True
  | t :: cs, p :: ps => TyP t p ∧ TyPs cs ps
  | _, _ => False
theorem TyPs.len : ∀ {cs : List Nat} {ps : List Pt}, TyPs cs ps → ps.length = cs.length
  | [], [], _ => rfl
  | t :: cs, p :: ps, h => by simp [TyPs.len h.2]
theorem TyPs.app : ∀ {cs ds : List Nat} {ps qs : List Pt}, TyPs cs ps → TyPs ds qs → TyPs (cs ++ ds) (ps ++ qs)
  | [], ds, [], qs, _, k => k
  | t :: cs, ds, p :: ps, qs, h, k => ⟨h.1, TyPs.app h.2 k⟩
theorem TyPs.take : ∀ {cs : List Nat} {ps : List Pt} (a : Nat), TyPs cs ps → TyPs (cs.take a) (ps.take a)
  | _, _, 0, _ => by simp [TyPs]
  | [], [], a + 1, _ => trivial
  | t :: cs, p :: ps, a + 1, h => ⟨h.1, TyPs.take a h.2⟩
theorem TyPs.drop : ∀ {cs : List Nat} {ps : List Pt} (a : Nat), TyPs cs ps → TyPs (cs.drop a) (ps.drop a)
  | _, _, 0, h => h
  | [], [], a + 1, _ => trivial
  | t :: cs, p :: ps, a + 1, h => TyPs.drop (cs := cs) (ps := ps) a h.2
theorem TyPs.get : ∀ {cs : List Nat} {ps : List Pt} {a t : Nat}, TyPs cs ps → cs[a]? = some t → ∃ p, ps[a]? = some p ∧ TyP t p
  | t :: cs, p :: ps, 0, u, h, e => by simp at e; subst e; exact ⟨p, rfl, h.1⟩
  | t :: cs, p :: ps, a + 1, u, h, e => by simpa using TyPs.get (a := a) h.2 (by simpa using e)
  | [], ps, a, u, h, e => by simp at e
  | t :: cs, [], a, u, h, e => h.elim
theorem TyPs.of : ∀ {cs : List Nat} {ps : List Pt}, ps.length = cs.length → (∀ (i : Nat) (x : Pt) u, ps[i]? = some x → cs[i]? = some u → TyP u x) → TyPs cs ps
  | [], [], _, _ => trivial
  | t :: cs, p :: ps, hl, h => ⟨h 0 p t rfl rfl, TyPs.of (by simpa using hl) fun i x u hx hu => h (i + 1) x u (by simpa using hx) (by simpa using hu)⟩
  | [], p :: ps, hl, _ => by simp at hl
  | t :: cs, [], hl, _ => by simp at hl
theorem TyPs.mem : ∀ {cs : List Nat} {ps : List Pt}, TyPs cs ps → ∀ p ∈ ps, ∃ t, TyP t p
  | t :: cs, q :: ps, h, p, hp => by
    rcases List.mem_cons.1 hp with rfl | hp
    · exact ⟨t, h.1⟩
    · exact TyPs.mem h.2 p hp
  | [], [], _, p, hp => by simp at hp
  | [], _ :: _, h, _, _ => h.elim
  | _ :: _, [], h, _, _ => h.elim

theorem ty_wild (t : Nat) : TyP t wildP := .any t _ (.inl rfl) rfl (fun h => by cases h)
theorem tyPs_wild : ∀ fs : List Nat, TyPs fs (List.replicate fs.length wildP)
  | [] => trivial
  | t :: fs => ⟨ty_wild t, tyPs_wild fs⟩

theorem TyP.form {t : Nat} {p : Pt} (h : TyP t p) : (p.f = 1 ∨ p.f = 2 ∨ p.f = 3 ∧ p.k = [] ∨ p.f = 4) ∧ p.k.length ≤ 2 := by
  cases h with
  | any _ _ hf hk => exact ⟨by rcases hf with h | h <;> simp [h], by rw [hk]; simp⟩
  | int _ hf hk => exact ⟨.inr (.inr (.inl ⟨hf, hk⟩)), by rw [hk]; simp⟩
  | con _ _ fs hf hs hl => exact ⟨.inr (.inr (.inr hf)), by rw [hl]; exact (wCons_fs hs).1⟩

/-- What is looked at is of the type, with fields of these types. -/
inductive Fit : Nat → Kn → List Nat → Prop
  | con (t : Nat) (s : ByteArray) (fs : List Nat) (h : (s, fs) ∈ wCons t) : Fit t (.con s fs.length) fs
  | int (n : Int) : Fit 0 (.int n) []
  | none (t : Nat) : Fit t .none []
theorem wCons_uniq {t : Nat} {s : ByteArray} {fs gs : List Nat} (h : (s, fs) ∈ wCons t) (k : (s, gs) ∈ wCons t) : fs = gs := by
  have ne : sFalse ≠ sTrue ∧ sN ≠ sC ∧ sA ≠ sB ∧ sA ≠ sD ∧ sB ≠ sD := by decide
  match t with
  | 0 => simp [wCons] at h
  | 1 => simp [wCons] at h k; rcases h with ⟨_, rfl⟩ | ⟨_, rfl⟩ <;> rcases k with ⟨_, rfl⟩ | ⟨_, rfl⟩ <;> rfl
  | 2 => simp [wCons] at h k; rcases h with ⟨rfl, rfl⟩ | ⟨rfl, rfl⟩ <;> rcases k with ⟨hs, rfl⟩ | ⟨hs, rfl⟩ <;> first | rfl | (exact absurd hs (by decide))
  | 3 => simp [wCons] at h k; rcases h with ⟨rfl, rfl⟩ | ⟨rfl, rfl⟩ | ⟨rfl, rfl⟩ <;> rcases k with ⟨hs, rfl⟩ | ⟨hs, rfl⟩ | ⟨hs, rfl⟩ <;> first | rfl | (exact absurd hs (by decide))
  | 4 => simp [wCons] at h k; rcases h with ⟨rfl, rfl⟩ | ⟨rfl, rfl⟩ <;> rcases k with ⟨hs, rfl⟩ | ⟨hs, rfl⟩ <;> first | rfl | (exact absurd hs (by decide))
  | n + 5 => simp [wCons] at h
theorem Fit.many {t : Nat} {K : Kn} {fs : List Nat} (h : Fit t K fs) : K.many = fs.length := by cases h <;> rfl
theorem Fit.many2 {t : Nat} {K : Kn} {fs : List Nat} (h : Fit t K fs) : K.many ≤ 2 := by
  rw [h.many]
  cases h with
  | con _ _ _ h => exact (wCons_fs h).1
  | _ => simp

/-- A row of columns of these types, so much of it lost. -/
structure RowTy (cs : List Nat) (N : Nat) (r : Rw) : Prop where
  ty : TyPs cs r.ps
  lost : r.lost.length + N < 10000

theorem RowTy.col {cs : List Nat} {N a t : Nat} {r : Rw} (h : RowTy cs N r) (ha : cs[a]? = some t) (hc : cs.length < 10000) : colOk a r := by
  obtain ⟨p, hp, ht⟩ := h.ty.get ha
  exact ⟨p, hp, ht.form.1, ht.form.2, by rw [h.ty.len]; exact hc, by have := h.lost; omega⟩

theorem hits_kids {t : Nat} {K : Kn} {fs : List Nat} {p : Pt} (hp : TyP t p) (hK : Fit t K fs) (hh : K.hits p = true) : TyPs fs p.k := by
  cases hK with
  | con _ s _ h =>
    simp only [Kn.hits, Bool.and_eq_true, decide_eq_true_eq] at hh
    cases hp with
    | any _ _ hf hk => omega
    | int _ hf => omega
    | con _ _ gs hf hs hl hk =>
      rw [hh.2] at hs
      rw [wCons_uniq h hs]
      exact TyPs.of hl hk
  | int n =>
    simp only [Kn.hits, Bool.and_eq_true, decide_eq_true_eq] at hh
    cases hp with
    | any _ _ hf hk => omega
    | int _ hf hk => rw [hk]; trivial
    | con _ _ gs hf => omega
  | none => simp [Kn.hits] at hh

theorem part_ty {cs fs : List Nat} {N a t : Nat} {r x : Rw} {K : Kn} {y : ByteArray} (h : RowTy cs (N + 1) r) (ha : cs[a]? = some t) (hK : Fit t K fs) (hx : part K a y r = some x) : RowTy (cs.take a ++ fs ++ cs.drop (a + 1)) N x := by
  obtain ⟨p, hp, ht⟩ := h.ty.get ha
  have hl := h.lost
  unfold part at hx
  rw [hp] at hx
  simp only at hx
  split at hx
  · injection hx with hx; subst hx
    refine ⟨((h.ty.take a).app ?_).app (h.ty.drop (a + 1)), ?_⟩
    · rw [hK.many]; exact tyPs_wild fs
    · simp only [List.length_append]; split <;> simp <;> omega
  · split at hx
    · rename_i hh
      injection hx with hx; subst hx
      exact ⟨((h.ty.take a).app (hits_kids ht hK hh)).app (h.ty.drop (a + 1)), by simp only; omega⟩
    · cases hx
theorem parts_ty {cs fs : List Nat} {N a t : Nat} {l : List Rw} {K : Kn} {y : ByteArray} (h : ∀ r ∈ l, RowTy cs (N + 1) r) (ha : cs[a]? = some t) (hK : Fit t K fs) : ∀ r ∈ parts K a y l, RowTy (cs.take a ++ fs ++ cs.drop (a + 1)) N r := fun x hx => by
  obtain ⟨r, hr, hp⟩ := List.mem_filterMap.1 hx
  exact part_ty (h r hr) ha hK hp

/-! How much there is to look at. -/
theorem nodes_eq (p : Pt) : p.nodes = (if p.f = 3 ∨ p.f = 4 then 1 else 0) + nodesL p.k := by cases p; rw [Pt.nodes]; rfl
theorem nodes_split {ps : List Pt} {a : Nat} {p : Pt} (h : ps[a]? = some p) : nodesL ps = nodesL (ps.take a) + p.nodes + nodesL (ps.drop (a + 1)) := by
  have hlt := (List.getElem?_eq_some_iff.1 h).1
  have e : ps = ps.take a ++ (p :: ps.drop (a + 1)) := by
    rw [List.getElem?_eq_getElem hlt] at h; injection h with h; subst h
    rw [List.getElem_cons_drop, List.take_append_drop]
  conv => lhs; rw [e]
  rw [nodesL_app]; simp only [nodesL]; omega
theorem nodes_wild : ∀ n : Nat, nodesL (List.replicate n wildP) = 0
  | 0 => rfl
  | n + 1 => by rw [List.replicate_succ]; simp only [nodesL, nodes_wild n]; rfl
def wt : List Rw → Nat
  | [] => 0
  | r :: l => nodesL r.ps + wt l
theorem part_wt {K : Kn} {a : Nat} {y : ByteArray} {r x : Rw} (hx : part K a y r = some x) : nodesL x.ps ≤ nodesL r.ps ∧ ∀ p, r.ps[a]? = some p → p.f = 4 → nodesL x.ps + 1 ≤ nodesL r.ps := by
  unfold part at hx
  split at hx
  · cases hx
  · rename_i p hp
    have hs := nodes_split hp
    have hn := nodes_eq p
    split at hx
    · rename_i ho
      injection hx with hx; subst hx
      refine ⟨by simp only [nodesL_app, nodes_wild]; omega, fun q hq h4 => ?_⟩
      rw [hp] at hq; injection hq with hq; subst hq
      simp [Pt.opn, h4] at ho
    · split at hx
      · injection hx with hx; subst hx
        refine ⟨by simp only [nodesL_app]; omega, fun q hq h4 => ?_⟩
        rw [hp] at hq; injection hq with hq; subst hq
        rw [if_pos (.inr h4)] at hn
        simp only [nodesL_app]; omega
      · cases hx
theorem parts_wt (K : Kn) (a : Nat) (y : ByteArray) : ∀ l : List Rw, wt (parts K a y l) ≤ wt l ∧ ((∃ r ∈ l, ∃ p, r.ps[a]? = some p ∧ p.f = 4) → wt (parts K a y l) + 1 ≤ wt l)
  | [] => ⟨Nat.le_refl _, fun ⟨r, hr, _⟩ => by simp at hr⟩
  | r :: l => by
    obtain ⟨h1, h2⟩ := parts_wt K a y l
    unfold parts at h1 h2 ⊢
    cases hx : part K a y r with
    | none =>
      rw [List.filterMap_cons_none hx]
      simp only [wt]
      refine ⟨by omega, fun ⟨r', hr, p, hp, h4⟩ => ?_⟩
      rcases List.mem_cons.1 hr with rfl | hr
      · have := nodes_split hp
        have hn := nodes_eq p
        rw [if_pos (.inr h4)] at hn
        omega
      · have := h2 ⟨r', hr, p, hp, h4⟩; omega
    | some x =>
      rw [List.filterMap_cons_some hx]
      obtain ⟨k1, k2⟩ := part_wt hx
      simp only [wt]
      refine ⟨by omega, fun ⟨r', hr, p, hp, h4⟩ => ?_⟩
      rcases List.mem_cons.1 hr with rfl | hr
      · have := k2 p hp h4; omega
      · have := h2 ⟨r', hr, p, hp, h4⟩; omega

/-! The constructors of a column. -/
def consT : Nat → List (ByteArray × List Tp)
  | 1 => wsBool
  | 2 => wsL
  | 3 => wsT
  | 4 => wsL
  | _ => []
theorem consT_eq (t : Nat) : (consT t).map (fun q => (q.1, q.2.length)) = (wCons t).map (fun q => (q.1, q.2.length)) := by
  match t with
  | 0 | 1 | 2 | 3 | 4 => rfl
  | n + 5 => rfl
theorem findCons_eq {t : Nat} {s : ByteArray} {fs : List Nat} (h : (s, fs) ∈ wCons t) : findCons s = some (consT t) := by
  match t with
  | 0 => simp [wCons] at h
  | 1 => simp [wCons] at h; rcases h with ⟨rfl, rfl⟩ | ⟨rfl, rfl⟩ <;> decide
  | 2 => simp [wCons] at h; rcases h with ⟨rfl, rfl⟩ | ⟨rfl, rfl⟩ <;> decide
  | 3 => simp [wCons] at h; rcases h with ⟨rfl, rfl⟩ | ⟨rfl, rfl⟩ | ⟨rfl, rfl⟩ <;> decide
  | 4 => simp [wCons] at h; rcases h with ⟨rfl, rfl⟩ | ⟨rfl, rfl⟩ <;> decide
  | n + 5 => simp [wCons] at h
end Go.Proofs.YtefdahofpjmnfaaDoor

namespace Go.Proofs.YtefdahofpjmnfaaDoor
open Go Fp
set_option maxRecDepth 10000
set_option maxHeartbeats 4000000

theorem ty_con {t : Nat} {p : Pt} (h : TyP t p) (hf : p.f = 4) : ∃ fs, (p.s, fs) ∈ wCons t ∧ TyPs fs p.k := by
  cases h with
  | any _ _ h => omega
  | int _ h => omega
  | con _ _ fs _ hs hl hk => exact ⟨fs, hs, TyPs.of hl hk⟩
theorem ty_int {t : Nat} {p : Pt} (h : TyP t p) (hf : p.f = 3) : t = 0 ∧ p.k = [] ∧ 0 ≤ p.n ∧ p.n < 1000 := by
  cases h with
  | any _ _ h => omega
  | int _ h hk hn => exact ⟨rfl, hk, hn⟩
  | con _ _ fs hf' => omega

theorem colCons_ty {cs : List Nat} {a t : Nat} (ha : cs[a]? = some t) : ∀ {l : List Rw}, (∀ r ∈ l, TyPs cs r.ps) →
    (colCons a l = none ∧ ∀ r ∈ l, ∀ p, r.ps[a]? = some p → p.f ≠ 4) ∨ (colCons a l = some (consT t) ∧ 0 < t ∧ t < 5 ∧ ∃ r ∈ l, ∃ p, r.ps[a]? = some p ∧ p.f = 4)
  | [], _ => .inl ⟨rfl, fun r hr => by simp at hr⟩
  | r :: l, h => by
    obtain ⟨p, hp, ht⟩ := (h r (by simp)).get ha
    have ih := colCons_ty ha (l := l) (fun r hr => h r (by simp [hr]))
    unfold colCons at ih ⊢
    by_cases h4 : p.f = 4
    · obtain ⟨fs, hs, _⟩ := ty_con ht h4
      have h0 := (wCons_fs hs).2.2
      refine .inr ⟨?_, h0.1, h0.2, r, by simp, p, hp, h4⟩
      have : rowCons a r = some (consT t) := by unfold rowCons; rw [hp]; simp only [if_pos h4, findCons_eq hs]
      simp [List.findSome?, this]
    · have : rowCons a r = none := by unfold rowCons; rw [hp]; simp only [if_neg h4]
      simp only [List.findSome?, this]
      rcases ih with ⟨k1, k2⟩ | ⟨k1, k2, k3, r', k4, k5⟩
      · refine .inl ⟨k1, fun r' hr' p' hp' => ?_⟩
        rcases List.mem_cons.1 hr' with rfl | hr'
        · rw [hp] at hp'; injection hp' with hp'; subst hp'; exact h4
        · exact k2 r' hr' p' hp'
      · exact .inr ⟨k1, k2, k3, r', by simp [k4], k5⟩

theorem ints_mem {cs : List Nat} {a t : Nat} (ha : cs[a]? = some t) : ∀ {l : List Rw} {out : List Int}, (∀ r ∈ l, TyPs cs r.ps) → (∀ x ∈ out, t = 0 ∧ 0 ≤ x ∧ x < 1000) → ∀ x ∈ l.foldl (intStep a) out, t = 0 ∧ 0 ≤ x ∧ x < 1000
  | [], out, _, h => h
  | r :: l, out, hl, h => by
    refine ints_mem ha (l := l) (fun r hr => hl r (by simp [hr])) fun x hx => ?_
    unfold intStep at hx
    split at hx
    · rename_i p hp
      split at hx
      · rename_i hc
        rcases List.mem_append.1 hx with hx | hx
        · exact h x hx
        · simp at hx; subst hx
          obtain ⟨q, hq, hty⟩ := (hl r (by simp)).get ha
          rw [hp] at hq; injection hq with hq; subst hq
          obtain ⟨k1, k2, k3⟩ := ty_int hty hc.1
          exact ⟨k1, k3⟩
      · exact h x hx
    · exact h x hx

/-- What stands for the integers of a column: one above the greatest. -/
def ownOf (l : List Int) : Pt := if l = [] then wildP else intP (l.foldl max 0 + 1)
theorem max_snoc (l : List Int) (x : Int) : (l ++ [x]).foldl max 0 = max (l.foldl max 0) x := by rw [List.foldl_append]; rfl
theorem max_bd : ∀ (l : List Int) (b : Int), (∀ x ∈ l, x < 1000) → b < 1000 → 0 ≤ b → l.foldl max b < 1000 ∧ 0 ≤ l.foldl max b
  | [], b, _, h, k => ⟨h, k⟩
  | x :: l, b, h, hb, h0 => by
    have := h x (by simp)
    exact max_bd l (max b x) (fun y hy => h y (by simp [hy])) (by omega) (by omega)

/-- What no row takes. -/
def miss : Nat → List Rw → Nat → Option (List Pt)
  | 0, _, _ => none
  | _ + 1, l, 0 => match l with
    | [] => some []
    | _ :: _ => none
  | n + 1, l, c + 1 => match colCons 0 l with
    | some ks => ks.findSome? fun q => (miss n (parts (.con q.1 q.2.length) 0 .empty l) (q.2.length + c)).map fun m => conP q.1 (m.take q.2.length) :: m.drop q.2.length
    | none => match miss n (parts .none 0 .empty l) c with
      | some m => some (ownOf (intsOf 0 l) :: m)
      | none => (intsOf 0 l).findSome? fun x => (miss n (parts (.int x) 0 .empty l) c).map fun m => intP x :: m

theorem miss_len : ∀ (n : Nat) (l : List Rw) (c : Nat) (m : List Pt), miss n l c = some m → m.length = c
  | 0, _, _, _, h => by simp [miss] at h
  | n + 1, l, 0, m, h => by
    cases l with
    | nil => simp [miss] at h; subst h; rfl
    | cons r l => simp [miss] at h
  | n + 1, l, c + 1, m, h => by
    unfold miss at h
    split at h
    · obtain ⟨q, _, hq⟩ := List.exists_of_findSome?_eq_some h
      obtain ⟨m', hm, rfl⟩ := Option.map_eq_some_iff.1 hq
      have := miss_len n _ _ _ hm
      simp; omega
    · split at h
      · rename_i m' hm
        injection h with h; subst h
        have := miss_len n _ _ _ hm
        simp; omega
      · obtain ⟨q, _, hq⟩ := List.exists_of_findSome?_eq_some h
        obtain ⟨m', hm, rfl⟩ := Option.map_eq_some_iff.1 hq
        have := miss_len n _ _ _ hm
        simp; omega

def missOr : Option (List Pt) → AV
  | some m => .tup [.sl (ePts m), .sb true]
  | none => .tup [.sl [], .sb false]

/-- The rows are of columns of these types, and there is enough. -/
structure RowsTy (cs : List Nat) (n : Nat) (l : List Rw) : Prop where
  row : ∀ r ∈ l, RowTy cs n r
  col : ∀ t ∈ cs, t < 5
  len : l.length < 10000
  fuel : 3 * wt l + cs.length < n
  cap : n < 10000
theorem RowsTy.tys {cs : List Nat} {n : Nat} {l : List Rw} (h : RowsTy cs n l) : ∀ r ∈ l, TyPs cs r.ps := fun r hr => (h.row r hr).ty
theorem RowsTy.ok {cs : List Nat} {t n : Nat} {l : List Rw} (h : RowsTy (t :: cs) n l) : ∀ r ∈ l, colOk 0 r := fun r hr => (h.row r hr).col (t := t) rfl (by have := h.fuel; have := h.cap; omega)
theorem RowsTy.con {cs fs : List Nat} {t n : Nat} {l : List Rw} {s : ByteArray} (h : RowsTy (t :: cs) (n + 1) l) (hs : (s, fs) ∈ wCons t) (h4 : ∃ r ∈ l, ∃ p, r.ps[0]? = some p ∧ p.f = 4) : RowsTy (fs ++ cs) n (parts (.con s fs.length) 0 .empty l) := by
  have hw := (parts_wt (.con s fs.length) 0 .empty l).2 h4
  have hf := wCons_fs hs
  have := h.fuel
  have := parts_le (.con s fs.length) 0 .empty l
  have := h.len
  have := h.cap
  refine ⟨fun r hr => parts_ty h.row (a := 0) (t := t) rfl (.con t s fs hs) r hr, fun u hu => ?_, by omega, by simp at *; omega, by omega⟩
  rcases List.mem_append.1 hu with hu | hu
  · exact hf.2.1 u hu
  · exact h.col u (by simp [hu])
theorem RowsTy.int {cs : List Nat} {t n : Nat} {l : List Rw} {x : Int} (h : RowsTy (t :: cs) (n + 1) l) (ht : t = 0) : RowsTy cs n (parts (.int x) 0 .empty l) := by
  have hw := (parts_wt (.int x) 0 .empty l).1
  have := h.fuel
  have := parts_le (.int x) 0 .empty l
  have := h.len
  have := h.cap
  subst ht
  exact ⟨fun r hr => parts_ty h.row (a := 0) (t := 0) rfl (.int x) r hr, fun u hu => h.col u (by simp [hu]), by omega, by simp at *; omega, by omega⟩
theorem RowsTy.none {cs : List Nat} {t n : Nat} {l : List Rw} (h : RowsTy (t :: cs) (n + 1) l) : RowsTy cs n (parts .none 0 .empty l) := by
  have hw := (parts_wt .none 0 .empty l).1
  have := h.fuel
  have := parts_le .none 0 .empty l
  have := h.len
  have := h.cap
  exact ⟨fun r hr => parts_ty h.row (a := 0) (t := t) rfl (.none t) r hr, fun u hu => h.col u (by simp [hu]), by omega, by simp at *; omega, by omega⟩

/-- A constructor among those of a column, with its fields' types. -/
theorem consT_at {t : Nat} {q : ByteArray × List Tp} (h : q ∈ consT t) : ∃ fs, (q.1, fs) ∈ wCons t ∧ fs.length = q.2.length := by
  have h1 : (q.1, q.2.length) ∈ (consT t).map (fun q => (q.1, q.2.length)) := List.mem_map.2 ⟨q, h, rfl⟩
  rw [consT_eq] at h1
  obtain ⟨p, hp, he⟩ := List.mem_map.1 h1
  injection he with h2 h3
  exact ⟨p.2, by rw [← h2]; exact hp, h3⟩
theorem consT_len (t : Nat) : (consT t).length ≤ 3 := by
  match t with
  | 0 | 1 | 2 | 3 | 4 => decide
  | n + 5 => simp [consT]
end Go.Proofs.YtefdahofpjmnfaaDoor
