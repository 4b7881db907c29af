/- The program's rows for what is looked at in a column. No condition. -/
import Derived.Test.YtefdahofpjmnfaaL23
set_option linter.unusedSimpArgs false
set_option linter.unusedVariables false
namespace Go.Proofs.Ytefdahofpjmnfaa
open Go Fp
set_option maxRecDepth 10000
set_option maxHeartbeats 16000000

theorem wilds_ok (n : Nat) (hn : n ≤ 2) : ACall Try.prog n_cover_wilds [.lit (.int .i64 (n : Nat))] (.sl (ePts (List.replicate n wildP))) := by
  have hr := repeat_ok (ePt wildP) n hn rfl (fun c hc => by simp [ePt, AV.cells] at hc; rcases hc with rfl | rfl | rfl | rfl | rfl | rfl | rfl | rfl | rfl | rfl <;> rfl)
  have e : List.replicate n (ePt wildP) = ePts (List.replicate n wildP) := by simp [ePts]
  rw [e] at hr
  refine acall_of_wcx ttok mixed Try.func64 rfl (by rfl) (Nat.le_of_ble_eq_true rfl) (by kernel_rfl) ?_
  exact .inl ⟨_, hr, rfl⟩

/-- What takes patterns apart, as a value. -/
def afn : Kn → AV
  | .con s _ => .fn (.func n_cover_ofCon_1) [] [.ptr [.lit (.string s)]]
  | .int x => .fn (.func n_cover_ofInt_1) [] [.ptr [.lit (.int .i64 x)]]
  | .none => .lit (fnv n_cover_ofNone)
theorem ofCon_ok (s : ByteArray) (n : Nat) : ACall Try.prog n_cover_ofCon [.lit (.string s)] (afn (.con s n)) := by
  refine acall_of_wcx ttok mixed Try.func44 rfl (by rfl) (Nat.le_of_ble_eq_true rfl) (by kernel_rfl) ?_
  exact .inl rfl
theorem ofInt_ok (x : Int) : ACall Try.prog n_cover_ofInt [.lit (.int .i64 x)] (afn (.int x)) := by
  refine acall_of_wcx ttok mixed Try.func47 rfl (by rfl) (Nat.le_of_ble_eq_true rfl) (by kernel_rfl) ?_
  exact .inl rfl

theorem ofCon1_ok (s : ByteArray) (p : Pt) : ACall Try.prog n_cover_ofCon_1 [ePt p, .ptr [.lit (.string s)]] (.tup [.sl p.eKids, .sb (decide (p.f = 4) && decide (p.s = s))]) := by
  refine acall_of_wcx ttok mixed Try.func68 rfl (by rfl) (Nat.le_of_ble_eq_true rfl) (by kernel_rfl) ?_
  refine ⟨fun h => ?_, fun h => ?_⟩
  · rw [h]
    exact ⟨by decide, rfl⟩
  · rw [h]
    exact ⟨by decide, rfl⟩
theorem ofInt1_ok (x : Int) (p : Pt) : ACall Try.prog n_cover_ofInt_1 [ePt p, .ptr [.lit (.int .i64 x)]] (.tup [.sl [], .sb (decide (p.f = 3) && decide (p.n = x))]) := by
  refine acall_of_wcx ttok mixed Try.func70 rfl (by rfl) (Nat.le_of_ble_eq_true rfl) (by kernel_rfl) ?_
  refine ⟨fun h => ?_, fun h => ?_⟩
  · rw [h]
    exact ⟨by decide, rfl⟩
  · rw [h]
    exact ⟨by decide, rfl⟩
theorem ofNone_ok (p : Pt) : ACall Try.prog n_cover_ofNone [ePt p] (.tup [.sl [], .sb false]) := by
  refine acall_of_wcx ttok mixed Try.func42 rfl (by rfl) (Nat.le_of_ble_eq_true rfl) (by kernel_rfl) ?_
  exact rfl
theorem var_ok (s : ByteArray) : ACall Try.prog n_core_Var [.lit (.string s)] (.agg [.lit (.int .i64 1), .lit (.int .i64 0), .lit (.string s), .lit (.int .i64 0), .lit (.int .i64 0), .lit (.string .empty), .sl [], .sl [], .sl [], .sl []]) := by
  refine acall_of_wcx ttok mixed Try.func66 rfl (by rfl) (Nat.le_of_ble_eq_true rfl) (by kernel_rfl) ?_
  exact rfl

/-- Its parts, and whether it is looked at. -/
def Kn.prt (K : Kn) (p : Pt) : List Pt := match K with
  | .con _ _ => p.k
  | _ => []
/-- One row, taken apart. -/
def formR (K : Kn) (a : Nat) (y : ByteArray) (r : Rw) (p : Pt) : Rw × Bool := if p.opn = true then
    (⟨r.ps.take a ++ List.replicate K.many wildP ++ r.ps.drop (a + 1), r.lost ++ (if p.f = 2 then [(p.s, p.t, y)] else []), r.body⟩, true)
  else (⟨r.ps.take a ++ K.prt p ++ r.ps.drop (a + 1), r.lost, r.body⟩, K.hits p)

theorem part_form {K : Kn} {a : Nat} {y : ByteArray} {r : Rw} {p : Pt} (hp : r.ps[a]? = some p) (hk : p.f = 3 → p.k = []) : part K a y r = if (formR K a y r p).2 = true then some (formR K a y r p).1 else none := by
  unfold part formR
  rw [hp]
  simp only
  by_cases ho : p.opn = true
  · simp [ho]
  · rw [if_neg ho, if_neg ho]
    cases K with
    | con s n => rfl
    | int x =>
      by_cases hh : (Kn.int x).hits p = true
      · have h3 : p.f = 3 := by simp [Kn.hits] at hh; exact hh.1
        simp only [hh, if_true, Kn.prt, hk h3]
      · simp only [hh]; rfl
    | none => rfl

abbrev forms1A (K : Kn) (a : Nat) (y : ByteArray) : List AV := [.ptr [.lit (.int .i64 (a : Nat))], .ptr [afn K], .ptr [.lit (.int .i64 (K.many : Nat))], .ptr [.lit (.string y)]]

theorem forms1_ok (F : Int) (b : Nat → Int) (K : Kn) (r : Rw) (a : Nat) (y : ByteArray) {p : Pt} (hp : r.ps[a]? = some p) (hkk : p.k.length ≤ 2) (hm : K.many ≤ 2) (hb : r.ps.length < 10000) (hlo : r.lost.length < 10000) :
    ACall Try.prog n_cover_forms_1 (eRw F b r :: forms1A K a y) (.tup [eRw F b (formR K a y r p).1, .sb (formR K a y r p).2]) := by
  have ha : a < r.ps.length := (List.getElem?_eq_some_iff.1 hp).1
  have hp' : (ePts r.ps)[a]? = some (ePt p) := by simp [ePts, hp]
  have wa : IntKind.i64.wrap ((a : Int) + 1) = ((a + 1 : Nat) : Int) := wrap_succ (by omega)
  have hlen := lenP r.ps
  have hop := open_ok p
  have hw := wilds_ok K.many hm
  have hv := var_ok y
  have e1 : List.drop (Int.toNat 0) (List.take (Int.toNat (a : Int)) (ePts r.ps)) = ePts (r.ps.take a) := partsP r.ps a
  have e2 : List.drop (Int.toNat (IntKind.i64.wrap ((a : Int) + 1))) (List.take (Int.toNat (((ePts r.ps).length : Nat) : Int)) (ePts r.ps)) = ePts (r.ps.drop (a + 1)) := by
    rw [wa]; simp only [Int.toNat_natCast, List.take_length, ePts, List.map_drop]
  have cc : ∀ m : List Pt, m.length ≤ 2 → ACall Try.prog n_slices_Concat_apiPatapiPat [.sl [.sl (List.drop (Int.toNat 0) (List.take (Int.toNat (a : Int)) (ePts r.ps))), .sl (ePts m), .sl (List.drop (Int.toNat (IntKind.i64.wrap ((a : Int) + 1))) (List.take (Int.toNat (((ePts r.ps).length : Nat) : Int)) (ePts r.ps)))]]
      (.sl (ePts (r.ps.take a ++ m ++ r.ps.drop (a + 1)))) := fun m hml => by
    rw [e1, e2]
    have := concat65_ok [ePts (r.ps.take a), ePts m, ePts (r.ps.drop (a + 1))] (by simp) (fun l hl => by simp at hl; rcases hl with rfl | rfl | rfl <;> exact uniP _) (by simp [ePts]; omega)
    rw [show [ePts (r.ps.take a), ePts m, ePts (r.ps.drop (a + 1))].flatten = ePts (r.ps.take a ++ m ++ r.ps.drop (a + 1)) by simp [ePts]] at this
    exact this
  have hels := p.eKids_eq
  have sl1 : (0 : Int) ≤ 0 ∧ (0 : Int) ≤ (a : Nat) ∧ ((a : Nat) : Int) ≤ ((ePts r.ps).length : Nat) := ⟨by omega, by omega, by rw [hlen]; omega⟩
  have sl2 : (0 : Int) ≤ IntKind.i64.wrap ((a : Int) + 1) ∧ IntKind.i64.wrap ((a : Int) + 1) ≤ ((ePts r.ps).length : Nat) := by rw [wa, hlen]; omega
  have hll : (eLs r.lost).length = r.lost.length := by simp [eLs]
  have eL1 : List.drop (Int.toNat 0) (List.take (Int.toNat (((eLs r.lost).length : Nat) : Int)) (eLs r.lost)) = eLs r.lost := by simp
  have tail : ∀ (m : List Pt) (is : Bool), m.length ≤ 2 → Wsem Try.prog (sndC (sndC (sndC (sndC (bodyC Try.f62))))) (mkC { vs := [(1, .v (.ptr [.lit (.int .i64 (a : Nat))])), (4, .v (.ptr [.lit (.string y)])), (5, .box 0 (eRw F b r)), (6, .box 0 (eRw 0 (fun _ => 0) ⟨[], [], 0⟩)), (8, .box 0 (ePt p)), (9, .v (.sl (ePts m))), (10, .v (.sb is))] })
      (fun c => RetP tt Try.f62.results.toList (.tup [eRw F b ⟨r.ps.take a ++ m ++ r.ps.drop (a + 1), r.lost ++ (if p.f = 2 then [(p.s, p.t, y)] else []), r.body⟩, .sb is]) (den c)) (fun _ _ => False) (fun c => RetP tt Try.f62.results.toList (.tup [eRw F b ⟨r.ps.take a ++ m ++ r.ps.drop (a + 1), r.lost ++ (if p.f = 2 then [(p.s, p.t, y)] else []), r.body⟩, .sb is]) (den c)) := fun m is hml => by
    have c1 := cc m hml
    refine Wsem.of ttok mixed ?_
    refine ⟨sl1.1, sl1.2.1, sl1.2.2, rfl, .inl rfl, ?_⟩
    refine ⟨sl2.1, sl2.2, Int.le_refl _, .inr (uniP _), ?_⟩
    refine .inl ⟨_, c1, ?_⟩
    refine ⟨by kernel_rfl, ?_⟩
    by_cases h2 : p.f = 2
    · have fin : ∀ L : List AV, L = eLs r.lost → AV.tup [.agg [.sl (ePts (r.ps.take a ++ m ++ r.ps.drop (a + 1))), .sl (L ++ [eL (p.s, p.t, y)]), .lit (.int .i64 F), .lit (.int .i64 (b r.body)), .lit (.string .empty), .lit (.int .i64 0), .lit (.int .i64 0), .lit (.string .empty), .sl [], .sl [], .sl [], .sl []], .sb is] =
          AV.tup [eRw F b ⟨r.ps.take a ++ m ++ r.ps.drop (a + 1), r.lost ++ (if p.f = 2 then [(p.s, p.t, y)] else []), r.body⟩, .sb is] := fun L hL => by
        rw [hL, if_pos h2]
        unfold eRw
        simp [eLs]
      refine ⟨fun hbs => ?_, fun hbs => ?_⟩ <;> first | (exfalso; revert hbs; (simp [h2]); done) | skip
      refine ⟨by decide, Int.natCast_nonneg _, Int.le_refl _, rfl, .inl rfl, ?_⟩
      refine .inl ⟨_, hv, ?_⟩
      refine ⟨by rw [eL1, hll]; simp; omega, by rw [eL1]; exact uniL _, uniL [(p.s, p.t, y)], ?_⟩
      refine ⟨by kernel_rfl, ?_⟩
      exact fin _ eL1
    · refine ⟨fun hbs => ?_, fun hbs => ?_⟩ <;> first | (exfalso; revert hbs; (simp [h2]); done) | skip
      rw [if_neg h2, List.append_nil]
      exact rfl
  unfold formR
  refine acall_of_wsem ttok mixed Try.func62 rfl (by rfl) (Nat.le_of_ble_eq_true rfl) (by kernel_rfl) ?_
  refine Wsem.seq ttok mixed ?_
  refine Wsem.seq ttok mixed ?_
  refine ⟨_, by omega, hp', rfl, ?_⟩
  refine Wsem.seq ttok mixed ?_
  cases ho : p.opn with
  | true =>
    rw [ho] at hop
    rw [if_pos rfl]
    have t := tail (List.replicate K.many wildP) true (by simpa using hm)
    cases K with
    | con s n =>
      refine .inl ⟨_, ofCon1_ok s p, ?_⟩
      refine Wsem.seq ttok mixed ?_
      refine .inl ⟨_, hop, ?_⟩
      refine ⟨fun hbs => ?_, fun hbs => ?_⟩ <;> first | (exfalso; revert hbs; simp [Kn.form]; done) | skip
      refine .inl ⟨_, hw, ?_⟩
      refine Wsem.cut _ ?_ t
      exact ⟨⟨rfl, rfl, rfl, rfl, rfl, rfl, rfl, trivial⟩, trivial, rfl⟩
    | int x =>
      refine .inl ⟨_, ofInt1_ok x p, ?_⟩
      refine Wsem.seq ttok mixed ?_
      refine .inl ⟨_, hop, ?_⟩
      refine ⟨fun hbs => ?_, fun hbs => ?_⟩ <;> first | (exfalso; revert hbs; simp [Kn.form]; done) | skip
      refine .inl ⟨_, hw, ?_⟩
      refine Wsem.cut _ ?_ t
      exact ⟨⟨rfl, rfl, rfl, rfl, rfl, rfl, rfl, trivial⟩, trivial, rfl⟩
    | none =>
      refine .inl ⟨_, ofNone_ok p, ?_⟩
      refine Wsem.seq ttok mixed ?_
      refine .inl ⟨_, hop, ?_⟩
      refine ⟨fun hbs => ?_, fun hbs => ?_⟩ <;> first | (exfalso; revert hbs; simp [Kn.form]; done) | skip
      refine .inl ⟨_, hw, ?_⟩
      refine Wsem.cut _ ?_ t
      exact ⟨⟨rfl, rfl, rfl, rfl, rfl, rfl, rfl, trivial⟩, trivial, rfl⟩
  | false =>
    rw [ho] at hop
    rw [if_neg (by simp)]
    have hf2 : p.f ≠ 2 := fun h => by simp [Pt.opn, h] at ho
    cases K with
    | con s n =>
      have t := tail p.k ((.con s n : Kn).hits p) (by first | exact hkk | simp)
      rw [if_neg hf2, show r.lost ++ [] = r.lost from List.append_nil _] at t
      refine .inl ⟨_, ofCon1_ok s p, ?_⟩
      refine Wsem.seq ttok mixed ?_
      refine .inl ⟨_, hop, ?_⟩
      refine ⟨fun hbs => ?_, fun hbs => ?_⟩ <;> first | (exfalso; revert hbs; simp [Kn.form]; done) | skip
      refine Wsem.cut _ ?_ t
      refine ⟨⟨rfl, rfl, rfl, rfl, rfl, ?_, rfl, trivial⟩, trivial, rfl⟩
      rw [← hels]; exact rfl
    | int x =>
      have t := tail [] ((.int x : Kn).hits p) (by first | exact hkk | simp)
      rw [if_neg hf2, show r.lost ++ [] = r.lost from List.append_nil _] at t
      refine .inl ⟨_, ofInt1_ok x p, ?_⟩
      refine Wsem.seq ttok mixed ?_
      refine .inl ⟨_, hop, ?_⟩
      refine ⟨fun hbs => ?_, fun hbs => ?_⟩ <;> first | (exfalso; revert hbs; simp [Kn.form]; done) | skip
      refine Wsem.cut _ ?_ t
      refine ⟨⟨rfl, rfl, rfl, rfl, rfl, ?_, rfl, trivial⟩, trivial, rfl⟩
      exact rfl
    | none =>
      have t := tail [] ((.none : Kn).hits p) (by first | exact hkk | simp)
      rw [if_neg hf2, show r.lost ++ [] = r.lost from List.append_nil _] at t
      refine .inl ⟨_, ofNone_ok p, ?_⟩
      refine Wsem.seq ttok mixed ?_
      refine .inl ⟨_, hop, ?_⟩
      refine ⟨fun hbs => ?_, fun hbs => ?_⟩ <;> first | (exfalso; revert hbs; simp [Kn.form]; done) | skip
      refine Wsem.cut _ ?_ t
      refine ⟨⟨rfl, rfl, rfl, rfl, rfl, ?_, rfl, trivial⟩, trivial, rfl⟩
      exact rfl

end Go.Proofs.Ytefdahofpjmnfaa
