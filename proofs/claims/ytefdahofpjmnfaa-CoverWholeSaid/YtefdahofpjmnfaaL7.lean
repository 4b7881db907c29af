/- A part of the proof of a given statement: contracts of functions of the program, under no condition but those that each states. -/
import Derived.Test.YtefdahofpjmnfaaL6
set_option linter.unusedSimpArgs false
set_option linter.unusedVariables false
namespace Go.Proofs.Ytefdahofpjmnfaa
open Go Fp
set_option maxRecDepth 10000
set_option maxHeartbeats 8000000

/-- What is looked at in a column. -/
inductive Kn where
  | con (s : ByteArray) (n : Nat)
  | int (n : Int)
  | none
def Kn.form : Kn → Int | con _ _ => 4 | int _ => 3 | none => 1
def Kn.nam : Kn → ByteArray | con s _ => s | _ => .empty
def Kn.num : Kn → Int | con _ n => (n : Nat) | int n => n | none => 0
def Kn.many : Kn → Nat | con _ n => n | _ => 0
def Kn.hits (K : Kn) (p : Pt) : Bool := match K with
  | con s _ => decide (p.f = 4) && decide (p.s = s)
  | int n => decide (p.f = 3) && decide (p.n = n)
  | none => false

/-- The row for what is looked at, if there is one. -/
def part (K : Kn) (a : Nat) (y : ByteArray) (r : Rw) : Option Rw := match r.ps[a]? with
  | none => none
  | some p => if p.opn = true then some ⟨r.ps.take a ++ List.replicate K.many wildP ++ r.ps.drop (a + 1), r.lost ++ (if p.f = 2 then [(p.s, p.t, y)] else []), r.body⟩
    else if K.hits p = true then some ⟨r.ps.take a ++ p.k ++ r.ps.drop (a + 1), r.lost, r.body⟩ else none
def parts (K : Kn) (a : Nat) (y : ByteArray) (l : List Rw) : List Rw := l.filterMap (part K a y)

theorem partsP (l : List Pt) (k : Nat) : List.drop (Int.toNat 0) (List.take (Int.toNat (k : Int)) (ePts l)) = ePts (l.take k) := by simp [ePts]

def rowOr (x : Option Rw) : AV := match x with
  | some r => .tup [eRr r, .sb true]
  | none => .tup [eRr ⟨[], [], 0⟩, .sb false]



theorem apart_ok (K : Kn) (r : Rw) (a : Nat) (y : ByteArray) {p : Pt} (hp : r.ps[a]? = some p) (hf : p.f = 1 ∨ p.f = 2 ∨ p.f = 3 ∧ p.k = [] ∨ p.f = 4) (hkk : p.k.length ≤ 2) (hm : K.many ≤ 2) (hb : r.ps.length < 10000) (hlo : r.lost.length < 10000) :
    ACall Try.prog n_fugueref20_apart [eRr r, .lit (.int .i64 (a : Nat)), .lit (.int .i64 K.form), .lit (.string K.nam), .lit (.int .i64 K.num), .lit (.string y)] (rowOr (part K a y r)) := by
  have ha : a < r.ps.length := (List.getElem?_eq_some_iff.1 hp).1
  have hp' : (ePts r.ps)[a]? = some (ePt p) := by simp [ePts, hp]
  have wa : IntKind.i64.wrap ((a : Int) + 1) = ((a + 1 : Nat) : Int) := wrap_succ (by omega)
  have hd2 : List.drop (Int.toNat (IntKind.i64.wrap ((a : Int) + 1))) (List.take (Int.toNat (((ePts r.ps).length : Nat) : Int)) (ePts r.ps)) = ePts (r.ps.drop (a + 1)) := by
    rw [wa]; simp only [Int.toNat_natCast, List.take_length, ePts, List.map_drop]
  have hd1 := partsP r.ps a
  have hlen := lenP r.ps
  unfold part
  rw [hp]
  simp only
  by_cases ho : p.opn = true
  · rw [if_pos ho]
    have hop := open20_ok p
    rw [ho] at hop
    have hmap : ∀ n : Nat, Uni 10 (ePts (List.replicate n wildP)) ∧ (ePts (List.replicate n wildP)).length = n := fun n => ⟨uniP _, by simp [ePts]⟩
    have fin : ∀ (n : Nat) (L : List AV), L = [] ++ List.drop (Int.toNat 0) (List.take (Int.toNat (a : Int)) (ePts r.ps)) ++ ePts (List.replicate n wildP) ++ List.drop (Int.toNat (IntKind.i64.wrap ((a : Int) + 1))) (List.take (Int.toNat (((ePts r.ps).length : Nat) : Int)) (ePts r.ps)) → L = ePts (r.ps.take a ++ List.replicate n wildP ++ r.ps.drop (a + 1)) := fun n L h => by
      rw [h, hd1, hd2]; simp [ePts]
    have lst : ∀ (L : List AV) (M : List (ByteArray × Tp × ByteArray)), L = eNs M → ∀ (Q : List AV) (V : List Pt), Q = ePts V → AV.tup [.agg [.sl Q, .sl L, .lit (.int .i64 (r.body : Nat))], .sb true] = rowOr (some ⟨V, M, r.body⟩) := fun L M h Q V h' => by rw [h, h']; rfl
    refine acall_of_wc ttok mixed Try.func71 rfl (by rfl) (Nat.le_of_ble_eq_true rfl) (by kernel_rfl) ?_
    refine ⟨_, by omega, hp', rfl, ?_⟩
    refine .inl ⟨_, hop, ?_⟩
    cases K with
    | none =>
      have uk : Uni 10 ([] : List AV) := uni0 _
      have lk : ([] : List AV).length ≤ 2 := by simp
      refine ⟨fun hbs => ?_, fun hbs => ?_⟩ <;> first | (exfalso; revert hbs; simp [Kn.form]; done) | skip
      refine ⟨fun hbs => ?_, fun hbs => ?_⟩ <;> first | (exfalso; revert hbs; simp [Kn.form]; done) | skip
      refine ⟨fun hbs => ?_, fun hbs => ?_⟩ <;> first | (exfalso; revert hbs; simp [Kn.form]; done) | skip
      refine ⟨by decide, by omega, by rw [hlen]; omega, .inl rfl, ?_⟩
      refine ⟨by rw [hd1]; simp [ePts]; omega, uni0 _, (by rw [hd1]; exact uniP _), ?_⟩
      refine ⟨by rw [hd1]; simp [ePts]; omega, (by rw [hd1]; exact uniApp (uni0 _) (uniP _)), uk, ?_⟩
      refine ⟨by rw [wa]; omega, by rw [wa, hlen]; omega, by rw [hlen]; omega, .inr (uniP _), ?_⟩
      refine ⟨by rw [hd1, hd2]; simp [ePts]; omega, (by rw [hd1]; exact uniApp (uniApp (uni0 _) (uniP _)) uk), (by rw [hd2]; exact uniP _), ?_⟩
      refine ⟨by simp [eNs]; omega, uni0 _, uniN _, ?_⟩
      by_cases h2 : p.f = 2
      · refine ⟨fun hbs => ?_, fun hbs => ?_⟩ <;> first | (exfalso; revert hbs; (simp [h2]); done) | skip
        refine ⟨by simp [eNs]; omega, uniApp (uni0 _) (uniN _), uniMap (f := eN) (fun _ => rfl) [(p.s, p.t, y)], ?_⟩
        exact lst _ _ (by rw [if_pos h2]; unfold eNs; rw [List.map_append, List.nil_append]; rfl) _ _ (fin 0 _ rfl)
      · refine ⟨fun hbs => ?_, fun hbs => ?_⟩ <;> first | (exfalso; revert hbs; (simp [h2]); done) | skip
        exact lst _ _ (by rw [if_neg h2, List.append_nil]; rfl) _ _ (fin 0 _ rfl)
    | int n =>
      have uk : Uni 10 ([] : List AV) := uni0 _
      have lk : ([] : List AV).length ≤ 2 := by simp
      refine ⟨fun hbs => ?_, fun hbs => ?_⟩ <;> first | (exfalso; revert hbs; simp [Kn.form]; done) | skip
      refine ⟨fun hbs => ?_, fun hbs => ?_⟩ <;> first | (exfalso; revert hbs; simp [Kn.form]; done) | skip
      refine ⟨fun hbs => ?_, fun hbs => ?_⟩ <;> first | (exfalso; revert hbs; simp [Kn.form]; done) | skip
      refine ⟨by decide, by omega, by rw [hlen]; omega, .inl rfl, ?_⟩
      refine ⟨by rw [hd1]; simp [ePts]; omega, uni0 _, (by rw [hd1]; exact uniP _), ?_⟩
      refine ⟨by rw [hd1]; simp [ePts]; omega, (by rw [hd1]; exact uniApp (uni0 _) (uniP _)), uk, ?_⟩
      refine ⟨by rw [wa]; omega, by rw [wa, hlen]; omega, by rw [hlen]; omega, .inr (uniP _), ?_⟩
      refine ⟨by rw [hd1, hd2]; simp [ePts]; omega, (by rw [hd1]; exact uniApp (uniApp (uni0 _) (uniP _)) uk), (by rw [hd2]; exact uniP _), ?_⟩
      refine ⟨by simp [eNs]; omega, uni0 _, uniN _, ?_⟩
      by_cases h2 : p.f = 2
      · refine ⟨fun hbs => ?_, fun hbs => ?_⟩ <;> first | (exfalso; revert hbs; (simp [h2]); done) | skip
        refine ⟨by simp [eNs]; omega, uniApp (uni0 _) (uniN _), uniMap (f := eN) (fun _ => rfl) [(p.s, p.t, y)], ?_⟩
        exact lst _ _ (by rw [if_pos h2]; unfold eNs; rw [List.map_append, List.nil_append]; rfl) _ _ (fin 0 _ rfl)
      · refine ⟨fun hbs => ?_, fun hbs => ?_⟩ <;> first | (exfalso; revert hbs; (simp [h2]); done) | skip
        exact lst _ _ (by rw [if_neg h2, List.append_nil]; rfl) _ _ (fin 0 _ rfl)
    | con s n =>
      have hn : n ≤ 2 := hm
      refine ⟨fun hbs => ?_, fun hbs => ?_⟩ <;> first | (exfalso; revert hbs; simp [Kn.form]; done) | skip
      refine ⟨fun hbs => ?_, fun hbs => ?_⟩ <;> first | (exfalso; revert hbs; simp [Kn.form]; done) | skip
      refine ⟨{i : Nat // i ≤ n}, fun i => { vs := [(1, .v (.lit (.int .i64 (a : Nat)))), (4, .v (.lit (.int .i64 (n : Nat)))), (5, .v (.lit (.string y))), (6, .box 0 (eRr r)), (12, .box 0 (eRr ⟨[], [], 0⟩)), (14, .box 0 (ePt p)), (15, .v (.sb true)), (16, .v (.sl (ePts (List.replicate i.1 wildP)))), (17, .v (.lit (.int .i64 (i.1 : Nat))))], ow := [(16, 0, 11)] },
        fun i => n - i.1, ⟨0, Nat.zero_le _⟩, ⟨⟨rfl, rfl, rfl, rfl, rfl, rfl, rfl, rfl, rfl, trivial⟩, ⟨trivial, trivial⟩, rfl⟩, ?_⟩
      rintro ⟨i, hi⟩
      refine ⟨fun h => ?_, fun h => ?_⟩
      · have h := of_decide_eq_true h
        simp only at h
        have h : i < n := by omega
        refine ⟨by rw [(hmap i).2]; simp; omega, uniP _, uniMap (f := ePt) (fun _ => rfl) [wildP], ?_⟩
        refine ⟨⟨i + 1, h⟩, by simp; omega, ⟨rfl, rfl, rfl, rfl, rfl, rfl, rfl, ?_, ?_, trivial⟩, ⟨rfl, trivial⟩, rfl⟩
        · show _ = SV.v (AV.sl (ePts (List.replicate (i + 1) wildP)))
          rw [List.replicate_succ']
          unfold ePts
          rw [List.map_append]; rfl
        · exact congrArg (fun l => SV.v (AV.lit (Value.int .i64 l))) (wrap_succ (k := i) (by omega))
      · have h := of_decide_eq_false h
        simp only at h
        have h : i = n := by omega
        subst h
        have uk : Uni 10 (ePts (List.replicate i wildP)) := uniP _
        have lk : (ePts (List.replicate i wildP)).length ≤ 2 := by rw [(hmap i).2]; omega
        refine ⟨fun hbs => ?_, fun hbs => ?_⟩ <;> first | (exfalso; revert hbs; simp [Kn.form]; done) | skip
        refine ⟨fun hbs => ?_, fun hbs => ?_⟩ <;> first | (exfalso; revert hbs; simp [Kn.form]; done) | skip
        refine ⟨by decide, by omega, by rw [hlen]; omega, .inl rfl, ?_⟩
        refine ⟨by rw [hd1]; simp [ePts]; omega, uni0 _, (by rw [hd1]; exact uniP _), ?_⟩
        refine ⟨by rw [hd1]; simp [ePts]; omega, (by rw [hd1]; exact uniApp (uni0 _) (uniP _)), uk, ?_⟩
        refine ⟨by rw [wa]; omega, by rw [wa, hlen]; omega, by rw [hlen]; omega, .inr (uniP _), ?_⟩
        refine ⟨by rw [hd1, hd2]; simp [ePts]; omega, (by rw [hd1]; exact uniApp (uniApp (uni0 _) (uniP _)) uk), (by rw [hd2]; exact uniP _), ?_⟩
        refine ⟨by simp [eNs]; omega, uni0 _, uniN _, ?_⟩
        by_cases h2 : p.f = 2
        · refine ⟨fun hbs => ?_, fun hbs => ?_⟩ <;> first | (exfalso; revert hbs; (simp [h2]); done) | skip
          refine ⟨by simp [eNs]; omega, uniApp (uni0 _) (uniN _), uniMap (f := eN) (fun _ => rfl) [(p.s, p.t, y)], ?_⟩
          exact lst _ _ (by rw [if_pos h2]; unfold eNs; rw [List.map_append, List.nil_append]; rfl) _ _ (fin _ _ rfl)
        · refine ⟨fun hbs => ?_, fun hbs => ?_⟩ <;> first | (exfalso; revert hbs; (simp [h2]); done) | skip
          exact lst _ _ (by rw [if_neg h2, List.append_nil]; rfl) _ _ (fin _ _ rfl)
  · rw [if_neg ho]
    have ho' : p.opn = false := by simpa using ho
    have hf1 : p.f ≠ 1 := fun h => by simp [Pt.opn, h] at ho
    have hf2 : p.f ≠ 2 := fun h => by simp [Pt.opn, h] at ho
    have hop := open20_ok p
    rw [ho'] at hop
    refine acall_of_wc ttok mixed Try.func71 rfl (by rfl) (Nat.le_of_ble_eq_true rfl) (by kernel_rfl) ?_
    refine ⟨_, by omega, hp', rfl, ?_⟩
    refine .inl ⟨_, hop, ?_⟩
    have fin : ∀ (L : List AV), L = [] ++ List.drop (Int.toNat 0) (List.take (Int.toNat (a : Int)) (ePts r.ps)) ++ p.eKids ++ List.drop (Int.toNat (IntKind.i64.wrap ((a : Int) + 1))) (List.take (Int.toNat (((ePts r.ps).length : Nat) : Int)) (ePts r.ps)) → L = ePts (r.ps.take a ++ p.k ++ r.ps.drop (a + 1)) := fun L h => by
      rw [h, hd1, hd2, p.eKids_eq]; simp [ePts]
    have uk : Uni 10 p.eKids := by rw [p.eKids_eq]; exact uniP _
    have lk : p.eKids.length ≤ 2 := by rw [p.eKids_eq, lenP]; exact hkk
    cases K with
    | none =>
      refine ⟨fun hbs => ?_, fun hbs => ?_⟩ <;> first | (exfalso; revert hbs; simp [Kn.form]; done) | skip
      refine ⟨fun hbs => ?_, fun hbs => ?_⟩ <;> first | (exfalso; revert hbs; simp [Kn.form]; done) | skip
      refine ⟨fun hbs => ?_, fun hbs => ?_⟩ <;> first | (exfalso; revert hbs; (simp [Kn.form, hf1]); done) | skip
      exact rfl
    | int n =>
      refine ⟨fun hbs => ?_, fun hbs => ?_⟩ <;> first | (exfalso; revert hbs; simp [Kn.form]; done) | skip
      refine ⟨fun hbs => ?_, fun hbs => ?_⟩ <;> first | (exfalso; revert hbs; simp [Kn.form]; done) | skip
      by_cases h3 : p.f = 3
      · refine ⟨fun hbs => ?_, fun hbs => ?_⟩ <;> first | (exfalso; revert hbs; (simp [Kn.form, h3]); done) | skip
        refine ⟨fun hbs => ?_, fun hbs => ?_⟩ <;> first | (exfalso; revert hbs; simp [Kn.form]; done) | skip
        refine ⟨fun hbs => ?_, fun hbs => ?_⟩ <;> first | (exfalso; revert hbs; simp [Kn.form]; done) | skip
        by_cases hn : p.n = n
        · rw [if_pos (by simp [Kn.hits, h3, hn])]
          refine ⟨fun hbs => ?_, fun hbs => ?_⟩ <;> first | (exfalso; revert hbs; (simp [Kn.num, hn]); done) | skip
          refine ⟨fun hbs => ?_, fun hbs => ?_⟩ <;> first | (exfalso; revert hbs; simp [Kn.form]; done) | skip
          refine ⟨fun hbs => ?_, fun hbs => ?_⟩ <;> first | (exfalso; revert hbs; simp [Kn.form]; done) | skip
          refine ⟨by decide, by omega, by rw [hlen]; omega, .inl rfl, ?_⟩
          refine ⟨by rw [hd1]; simp [ePts]; omega, uni0 _, (by rw [hd1]; exact uniP _), ?_⟩
          refine ⟨by rw [hd1]; simp [ePts]; omega, (by rw [hd1]; exact uniApp (uni0 _) (uniP _)), uk, ?_⟩
          refine ⟨by rw [wa]; omega, by rw [wa, hlen]; omega, by rw [hlen]; omega, .inr (uniP _), ?_⟩
          refine ⟨by rw [hd1, hd2]; simp [ePts]; omega, (by rw [hd1]; exact uniApp (uniApp (uni0 _) (uniP _)) uk), (by rw [hd2]; exact uniP _), ?_⟩
          refine ⟨by simp [eNs]; omega, uni0 _, uniN _, ?_⟩
          refine ⟨fun hbs => ?_, fun hbs => ?_⟩ <;> first | (exfalso; revert hbs; (simp [h3]); done) | skip
          exact congrArg (fun l => AV.tup [.agg [.sl l, .sl (eNs r.lost), .lit (.int .i64 (r.body : Nat))], .sb true]) (fin _ rfl)
        · rw [if_neg (by simp [Kn.hits, h3, hn])]
          refine ⟨fun hbs => ?_, fun hbs => ?_⟩ <;> first | (exfalso; revert hbs; (simp [Kn.num, hn]); done) | skip
          exact rfl
      · rw [if_neg (by simp [Kn.hits, h3])]
        refine ⟨fun hbs => ?_, fun hbs => ?_⟩ <;> first | (exfalso; revert hbs; (simp [Kn.form, h3]); done) | skip
        exact rfl
    | con s n =>
      refine ⟨fun hbs => ?_, fun hbs => ?_⟩ <;> first | (exfalso; revert hbs; simp [Kn.form]; done) | skip
      refine ⟨fun hbs => ?_, fun hbs => ?_⟩ <;> first | (exfalso; revert hbs; simp [Kn.form]; done) | skip
      refine ⟨fun hbs => ?_, fun hbs => ?_⟩ <;> first | (exfalso; revert hbs; simp [Kn.form]; done) | skip
      by_cases h4 : p.f = 4
      · refine ⟨fun hbs => ?_, fun hbs => ?_⟩ <;> first | (exfalso; revert hbs; (simp [Kn.form, h4]); done) | skip
        refine ⟨fun hbs => ?_, fun hbs => ?_⟩ <;> first | (exfalso; revert hbs; simp [Kn.form]; done) | skip
        by_cases hs : p.s = s
        · rw [if_pos (by simp [Kn.hits, h4, hs])]
          refine ⟨fun hbs => ?_, fun hbs => ?_⟩ <;> first | (exfalso; revert hbs; (simp [Kn.nam, hs]); done) | skip
          refine ⟨fun hbs => ?_, fun hbs => ?_⟩ <;> first | (exfalso; revert hbs; simp [Kn.form]; done) | skip
          refine ⟨fun hbs => ?_, fun hbs => ?_⟩ <;> first | (exfalso; revert hbs; simp [Kn.form]; done) | skip
          refine ⟨fun hbs => ?_, fun hbs => ?_⟩ <;> first | (exfalso; revert hbs; simp [Kn.form]; done) | skip
          refine ⟨by decide, by omega, by rw [hlen]; omega, .inl rfl, ?_⟩
          refine ⟨by rw [hd1]; simp [ePts]; omega, uni0 _, (by rw [hd1]; exact uniP _), ?_⟩
          refine ⟨by rw [hd1]; simp [ePts]; omega, (by rw [hd1]; exact uniApp (uni0 _) (uniP _)), uk, ?_⟩
          refine ⟨by rw [wa]; omega, by rw [wa, hlen]; omega, by rw [hlen]; omega, .inr (uniP _), ?_⟩
          refine ⟨by rw [hd1, hd2]; simp [ePts]; omega, (by rw [hd1]; exact uniApp (uniApp (uni0 _) (uniP _)) uk), (by rw [hd2]; exact uniP _), ?_⟩
          refine ⟨by simp [eNs]; omega, uni0 _, uniN _, ?_⟩
          refine ⟨fun hbs => ?_, fun hbs => ?_⟩ <;> first | (exfalso; revert hbs; (simp [h4]); done) | skip
          exact congrArg (fun l => AV.tup [.agg [.sl l, .sl (eNs r.lost), .lit (.int .i64 (r.body : Nat))], .sb true]) (fin _ rfl)
        · rw [if_neg (by simp [Kn.hits, h4, hs])]
          refine ⟨fun hbs => ?_, fun hbs => ?_⟩ <;> first | (exfalso; revert hbs; (simp [Kn.nam, hs]); done) | skip
          exact rfl
      · rw [if_neg (by simp [Kn.hits, h4])]
        refine ⟨fun hbs => ?_, fun hbs => ?_⟩ <;> first | (exfalso; revert hbs; (simp [Kn.form, h4]); done) | skip
        exact rfl
end Go.Proofs.Ytefdahofpjmnfaa
