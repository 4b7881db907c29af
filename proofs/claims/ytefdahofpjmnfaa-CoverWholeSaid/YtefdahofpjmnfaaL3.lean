/- A part of the proof of a given statement: contracts of functions of the program, under no condition but those that each states. -/
import Derived.Test.YtefdahofpjmnfaaL2
set_option linter.unusedSimpArgs false
set_option linter.unusedVariables false
namespace Go.Proofs.Ytefdahofpjmnfaa
open Go Fp
set_option maxRecDepth 10000
set_option maxHeartbeats 4000000

/-- How many places a pattern takes, at most. -/
def cap : Nat → Nat
  | 0 => 1
  | d + 1 => 1 + 2 * cap d

abbrev aPt (f n : Int) (s : ByteArray) (k : List AV) (t : Tp) (ts : List Tp) : AV :=
  .agg [.lit (.int .i64 f), .lit (.int .i64 0), .lit (.int .i64 n), .lit (.string s), .sl k, .lit (.int .i64 t.form), .lit (.int .i64 t.num), .lit (.string t.nam), .sl t.eArgs, .sl (eTys ts)]
theorem aPt_eq (f n : Int) (s : ByteArray) (k : List Pt) (t : Tp) (ts : List Tp) : aPt f n s (ePts k) t ts = ePt (.mk f n s t ts k) := by
  unfold aPt ePt
  rw [Pt.eKids_eq]; rfl

section
variable {l : List Int} {a t d n : Nat}
theorem pat_wild (ha : a < 4611686018427387904) (ht : t < 5) (hpick : ACall Try.prog n_fugueref14_pick [.sl (eIs l), .lit (.int .i64 (a : Nat))] (.lit (.int .i64 (n : Nat))))
    (h0 : n % 5 = 0 ∨ d = 0 ∧ 0 < t) :
    ACall Try.prog n_fugueref14_Pattern [.sl (eIs l), .lit (.int .i64 (a : Nat)), .lit (.int .i64 (t : Nat)), .lit (.int .i64 (d : Nat))] (.tup [ePt (.mk 1 0 .empty (wTy t) [] []), .lit (.int .i64 ((a + 1 : Nat) : Int))]) := by
  have hw := worldType_ok t ht
  have m5 : ((n : Int).tmod 5) = ((n % 5 : Nat) : Int) := rfl
  rw [← wrap_succ (k := a) (by omega)]
  refine acall_of_wc ttok mixed Try.func18 rfl (by rfl) (Nat.le_of_ble_eq_true rfl) (by kernel_rfl) ?_
  refine .inl ⟨_, hpick, .inl ⟨_, hw, ?_⟩⟩
  refine ⟨by decide, ?_⟩
  refine ⟨fun h => ?_, fun h => ?_⟩
  · have h : ¬ n % 5 = 0 := by simp at h; omega
    refine ⟨fun h' => ?_, fun h' => ?_⟩
    · refine ⟨fun _ => ?_, fun h'' => ?_⟩
      · exact rfl
      · simp at h''; omega
    · simp at h'; omega
  · exact rfl

theorem pat_var (ha : a < 4611686018427387904) (ht : t < 5) (hpick : ACall Try.prog n_fugueref14_pick [.sl (eIs l), .lit (.int .i64 (a : Nat))] (.lit (.int .i64 (n : Nat))))
    (h0 : ¬ (n % 5 = 0 ∨ d = 0 ∧ 0 < t)) (h1 : n % 5 = 1) :
    ∃ s : ByteArray, s.size ≤ 4 ∧ ACall Try.prog n_fugueref14_Pattern [.sl (eIs l), .lit (.int .i64 (a : Nat)), .lit (.int .i64 (t : Nat)), .lit (.int .i64 (d : Nat))] (.tup [ePt (.mk 2 0 s (wTy t) [] []), .lit (.int .i64 ((a + 1 : Nat) : Int))]) := by
  have hw := worldType_ok t ht
  have m5 : ((n : Int).tmod 5) = ((n % 5 : Nat) : Int) := rfl
  obtain ⟨s1, hs1, hc1⟩ := digit_ok (IntKind.i64.wrap ((a : Int).tdiv 10))
  obtain ⟨s2, hs2, hc2⟩ := digit_ok (a : Int)
  refine ⟨⟨#[118]⟩ ++ s1 ++ s2, ?_, ?_⟩
  · rw [ByteArray.size_append, ByteArray.size_append, show (⟨#[118]⟩ : ByteArray).size = 1 from rfl]; omega
  rw [← wrap_succ (k := a) (by omega)]
  refine acall_of_wc ttok mixed Try.func18 rfl (by rfl) (Nat.le_of_ble_eq_true rfl) (by kernel_rfl) ?_
  refine .inl ⟨_, hpick, .inl ⟨_, hw, ?_⟩⟩
  refine ⟨by decide, ?_⟩
  have fin : ∀ (F : Prop), F → F := fun _ h => h
  refine ⟨fun h => ?_, fun h => by simp at h; omega⟩
  refine ⟨fun h => ?_, fun h => ?_⟩
  · refine ⟨fun h' => ?_, fun h' => ?_⟩
    · simp at h h'; omega
    · refine ⟨by decide, ⟨fun _ => ?_, fun h => by simp at h; omega⟩⟩
      refine ⟨by decide, .inl ⟨_, hc1, ?_⟩⟩
      refine ⟨by rw [show (⟨#[118]⟩ : ByteArray).size = 1 from rfl]; omega, .inl ⟨_, hc2, ?_⟩⟩
      refine ⟨by rw [ByteArray.size_append, show (⟨#[118]⟩ : ByteArray).size = 1 from rfl]; omega, ?_⟩
      exact rfl
  · refine ⟨by decide, ⟨fun _ => ?_, fun h => by simp at h; omega⟩⟩
    refine ⟨by decide, .inl ⟨_, hc1, ?_⟩⟩
    refine ⟨by rw [show (⟨#[118]⟩ : ByteArray).size = 1 from rfl]; omega, .inl ⟨_, hc2, ?_⟩⟩
    refine ⟨by rw [ByteArray.size_append, show (⟨#[118]⟩ : ByteArray).size = 1 from rfl]; omega, ?_⟩
    exact rfl

theorem pat_int (ha : a < 4611686018427387904) (hpick : ACall Try.prog n_fugueref14_pick [.sl (eIs l), .lit (.int .i64 (a : Nat))] (.lit (.int .i64 (n : Nat)))) (hn : n < 9223372036854775808)
    (h0 : ¬ n % 5 = 0) (h1 : ¬ n % 5 = 1) :
    ACall Try.prog n_fugueref14_Pattern [.sl (eIs l), .lit (.int .i64 (a : Nat)), .lit (.int .i64 ((0 : Nat) : Int)), .lit (.int .i64 (d : Nat))] (.tup [ePt (.mk 3 ((n / 5 % 4 : Nat) : Int) .empty (wTy 0) [] []), .lit (.int .i64 ((a + 1 : Nat) : Int))]) := by
  have hw := worldType_ok 0 (by decide)
  have m5 : ((n : Int).tmod 5) = ((n % 5 : Nat) : Int) := rfl
  have w5 : IntKind.i64.wrap ((n : Int).tdiv 5) = ((n / 5 : Nat) : Int) := by rw [show ((n : Int).tdiv 5) = ((n / 5 : Nat) : Int) by simp]; exact wrap_nat (by omega)
  have w4 : ((n / 5 % 4 : Nat) : Int) = (IntKind.i64.wrap ((n : Int).tdiv 5)).tmod 4 := by rw [w5]; rfl
  rw [← wrap_succ (k := a) (by omega), w4]
  refine acall_of_wc ttok mixed Try.func18 rfl (by rfl) (Nat.le_of_ble_eq_true rfl) (by kernel_rfl) ?_
  refine .inl ⟨_, hpick, .inl ⟨_, hw, ?_⟩⟩
  refine ⟨by decide, ?_⟩
  refine ⟨fun h => ?_, fun h => by simp at h; omega⟩
  refine ⟨fun h => ?_, fun h => ?_⟩
  · refine ⟨fun h => by simp at h, fun _ => ?_⟩
    refine ⟨by decide, ⟨fun h => by simp at h; omega, fun _ => ?_⟩⟩
    refine ⟨fun _ => ?_, fun h => by simp at h⟩
    refine ⟨by decide, by decide, ?_⟩
    exact rfl
  · refine ⟨by decide, ⟨fun h => by simp at h; omega, fun _ => ?_⟩⟩
    refine ⟨fun _ => ?_, fun h => by simp at h⟩
    refine ⟨by decide, by decide, ?_⟩
    exact rfl
end
end Go.Proofs.Ytefdahofpjmnfaa
