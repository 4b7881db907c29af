/- A part of the proof of a given statement: contracts of functions of the program, under no condition but those that each states. -/
import Derived.Test.YtocglbflmkadeaaDoorL6
set_option linter.unusedSimpArgs false
set_option linter.unusedVariables false
namespace Go.Proofs.YtocglbflmkadeaaDoor
open Go Fp
set_option maxRecDepth 10000
set_option maxHeartbeats 4000000

def brk (b : Bool) (s : ByteArray) : ByteArray := if b then (⟨#[40]⟩ ++ s) ++ ⟨#[41]⟩ else s
/-- A type in print, as it stands. -/
def pr (dec : Int → ByteArray) : Tp → Nat → ByteArray
  | .no, _ => .empty
  | .mt n, _ => ⟨#[63]⟩ ++ dec n
  | .var s, _ => s
  | .con s, _ => brk (decide (s = arrow)) s
  | .all s a, h => brk (decide (h ≠ 0)) (((⟨#[102, 111, 114, 97, 108, 108, 32]⟩ ++ s) ++ ⟨#[46, 32]⟩) ++ pr dec a 0)
  | .app (.app f a) b, h => if f.form = 3 ∧ f.nam = arrow then brk (decide (h ≠ 0)) ((pr dec a 1 ++ ⟨#[32, 45, 62, 32]⟩) ++ pr dec b (if b.form = 5 then 1 else 0)) else brk (decide (h = 3)) ((pr dec (.app f a) 2 ++ ⟨#[32]⟩) ++ pr dec b 3)
  | .app x b, h => brk (decide (h = 3)) ((pr dec x 2 ++ ⟨#[32]⟩) ++ pr dec b 3)

theorem brk_size (b : Bool) (s : ByteArray) : (brk b s).size ≤ s.size + 2 := by
  have h1 : (ByteArray.mk #[40]).size = 1 := rfl
  have h2 : (ByteArray.mk #[41]).size = 1 := rfl
  unfold brk; split
  · rw [ByteArray.size_append, ByteArray.size_append, h1, h2]; omega
  · omega

theorem sz_pos (t : Tp) : 0 < t.sz := by cases t <;> simp [Tp.sz] <;> omega

theorem pr_size {dec : Int → ByteArray} (hd : ∀ n, (dec n).size ≤ 30) (N : Nat) : ∀ (t : Tp) (h : Nat), t.sz ≤ N → t.fine → (pr dec t h).size + 10 ≤ 50 * t.sz := by
  have q1 : (ByteArray.mk #[63]).size = 1 := rfl
  have q2 : (ByteArray.mk #[102, 111, 114, 97, 108, 108, 32]).size = 7 := rfl
  have q3 : (ByteArray.mk #[46, 32]).size = 2 := rfl
  have q4 : (ByteArray.mk #[32, 45, 62, 32]).size = 4 := rfl
  have q5 : (ByteArray.mk #[32]).size = 1 := rfl
  induction N with
  | zero => intro t h hs; have := sz_pos t; omega
  | succ N ih =>
    intro t h hs hf
    cases t with
    | no => exact hf.elim
    | mt n => have := hd n; simp only [pr, ByteArray.size_append, Tp.sz, q1]; omega
    | var s => simp only [pr, Tp.sz]; have : s.size ≤ 4 := hf; omega
    | con s => simp only [pr, Tp.sz]; have := brk_size (decide (s = arrow)) s; have : s.size ≤ 4 := hf; omega
    | all s a =>
      obtain ⟨h1, h2⟩ := hf
      simp only [Tp.sz] at hs
      have := ih a 0 (by omega) h2
      have hb := brk_size (decide (h ≠ 0)) (((⟨#[102, 111, 114, 97, 108, 108, 32]⟩ ++ s) ++ ⟨#[46, 32]⟩) ++ pr dec a 0)
      simp only [pr, Tp.sz]
      simp only [ByteArray.size_append, q2, q3] at hb
      omega
    | app x b =>
      obtain ⟨h1, h2⟩ := hf
      simp only [Tp.sz] at hs
      have hb0 := sz_pos b
      have hx0 := sz_pos x
      have hx := ih x 2 (by omega) h1
      have hb3 := ih b 3 (by omega) h2
      have gen : (brk (decide (h = 3)) ((pr dec x 2 ++ ⟨#[32]⟩) ++ pr dec b 3)).size + 10 ≤ 50 * (1 + x.sz + b.sz) := by
        have hb := brk_size (decide (h = 3)) ((pr dec x 2 ++ ⟨#[32]⟩) ++ pr dec b 3)
        simp only [ByteArray.size_append, q5] at hb
        omega
      cases x with
      | app f a =>
        simp only [Tp.sz] at hs hx0 hx gen
        have ha := ih a 1 (by omega) h1.2
        have hbb := ih b (if b.form = 5 then 1 else 0) (by omega) h2
        simp only [pr, Tp.sz]
        split
        · have hb := brk_size (decide (h ≠ 0)) ((pr dec a 1 ++ ⟨#[32, 45, 62, 32]⟩) ++ pr dec b (if b.form = 5 then 1 else 0))
          simp only [ByteArray.size_append, q4] at hb
          omega
        · exact gen
      | _ => exact gen

/-- The numbers of what is not known. -/
def mts : Tp → List Int
  | .mt n => [n]
  | .app a b => mts a ++ mts b
  | .all _ a => mts a
  | _ => []

theorem print_ok {dec : Int → ByteArray} (hd : ∀ n, (dec n).size ≤ 30) (N : Nat) (hN : N < 1000000) : ∀ (t : Tp) (h : Nat), t.sz ≤ N → t.fine → (∀ n ∈ mts t, ACall Tryd.prog n_strconv_Itoa [.lit (.int .i64 n)] (.lit (.string (dec n)))) →
    ACall Tryd.prog n_types_print [eTy t, .lit (.int .i64 (h : Nat))] (.lit (.string (pr dec t h))) := by
  have q1 : (ByteArray.mk #[63]).size = 1 := rfl
  have q2 : (ByteArray.mk #[102, 111, 114, 97, 108, 108, 32]).size = 7 := rfl
  have q3 : (ByteArray.mk #[46, 32]).size = 2 := rfl
  have q4 : (ByteArray.mk #[32, 45, 62, 32]).size = 4 := rfl
  have q5 : (ByteArray.mk #[32]).size = 1 := rfl
  have q6 : (ByteArray.mk #[40]).size = 1 := rfl
  have q7 : (ByteArray.mk #[41]).size = 1 := rfl
  induction N with
  | zero => intro t h hs; have := sz_pos t; omega
  | succ N ih =>
    intro t how hs hf hI
    have ih := ih (by omega)
    cases t with
    | no => exact hf.elim
    | mt n =>
      refine acall_of_wc ttok mixed Tryd.func49 rfl (by rfl) (Nat.le_of_ble_eq_true rfl) (by kernel_rfl) ?_
      have := hd n
      refine .inl ⟨_, parts_ok _, ?_⟩
      refine ⟨fun h => (by cases h), fun _ => ?_⟩
      refine ⟨fun _ => ?_, fun h => (by cases h)⟩
      refine .inl ⟨_, hI n (by simp [mts]), ?_⟩
      refine ⟨by rw [q1]; omega, ?_⟩
      exact rfl
    | var s =>
      refine acall_of_wc ttok mixed Tryd.func49 rfl (by rfl) (Nat.le_of_ble_eq_true rfl) (by kernel_rfl) ?_
      refine .inl ⟨_, parts_ok _, ?_⟩
      refine ⟨fun h => (by cases h), fun _ => ?_⟩
      refine ⟨fun h => (by cases h), fun _ => ?_⟩
      refine ⟨fun h => (by cases h), fun _ => ?_⟩
      refine ⟨fun h => (by cases h), fun _ => ?_⟩
      refine ⟨fun h => (by cases h), fun _ => ?_⟩
      exact rfl
    | con s =>
      refine acall_of_wc ttok mixed Tryd.func49 rfl (by rfl) (Nat.le_of_ble_eq_true rfl) (by kernel_rfl) ?_
      have hs4 : s.size ≤ 4 := hf
      have hnm : (Tp.con s).nam.size ≤ 4 := hs4
      refine .inl ⟨_, parts_ok _, ?_⟩
      refine ⟨fun h => (by cases h), fun _ => ?_⟩
      refine ⟨fun h => (by cases h), fun _ => ?_⟩
      refine ⟨fun _ => ?_, fun h => (by cases h)⟩
      refine ⟨fun h => ?_, fun h => ?_⟩
      · have h : s = arrow := of_decide_eq_true h
        refine ⟨by simp only [ByteArray.size_append, q1, q2, q3, q4, q5, q6, q7]; omega, ?_⟩
        refine ⟨by simp only [ByteArray.size_append, q1, q2, q3, q4, q5, q6, q7]; omega, ?_⟩
        show _ = AV.lit (.string (brk (decide (s = arrow)) s))
        rw [decide_eq_true h]
        exact rfl
      · have h : ¬ s = arrow := of_decide_eq_false h
        refine ⟨fun h => (by cases h), fun _ => ?_⟩
        refine ⟨fun h => (by cases h), fun _ => ?_⟩
        show _ = AV.lit (.string (brk (decide (s = arrow)) s))
        rw [decide_eq_false h]
        exact rfl
    | all s a =>
      obtain ⟨hs4, h2⟩ := hf
      simp only [Tp.sz] at hs
      refine acall_of_wc ttok mixed Tryd.func49 rfl (by rfl) (Nat.le_of_ble_eq_true rfl) (by kernel_rfl) ?_
      have hp := pr_size hd N a 0 (by omega) h2
      have hnm : (Tp.all s a).nam.size ≤ 4 := hs4
      refine .inl ⟨_, parts_ok _, ?_⟩
      refine ⟨fun h => (by cases h), fun _ => ?_⟩
      refine ⟨fun h => (by cases h), fun _ => ?_⟩
      refine ⟨fun h => (by cases h), fun _ => ?_⟩
      refine ⟨fun _ => ?_, fun h => (by cases h)⟩
      refine ⟨by simp only [ByteArray.size_append, q1, q2, q3, q4, q5, q6, q7]; omega, ?_⟩
      refine ⟨by simp only [ByteArray.size_append, q1, q2, q3, q4, q5, q6, q7]; omega, ?_⟩
      refine ⟨_, by decide, rfl, rfl, ?_⟩
      refine .inl ⟨_, ih a 0 (by omega) h2 hI, ?_⟩
      refine ⟨by simp only [ByteArray.size_append, q1, q2, q3, q4, q5, q6, q7]; omega, ?_⟩
      refine ⟨fun h => ?_, fun h => ?_⟩
      · have h : ¬ how = 0 := by simp at h; omega
        refine ⟨by simp only [ByteArray.size_append, q1, q2, q3, q4, q5, q6, q7]; omega, ?_⟩
        refine ⟨by simp only [ByteArray.size_append, q1, q2, q3, q4, q5, q6, q7]; omega, ?_⟩
        show _ = AV.lit (.string (brk (decide (how ≠ 0)) _))
        rw [decide_eq_true h]
        exact rfl
      · have h : how = 0 := by simp at h; omega
        show _ = AV.lit (.string (brk (decide (how ≠ 0)) _))
        rw [decide_eq_false (p := how ≠ 0) (by omega)]
        exact rfl
    | app x b =>
      obtain ⟨h1, h2⟩ := hf
      simp only [Tp.sz] at hs
      have hb0 := sz_pos b
      have hx0 := sz_pos x
      have hpx := pr_size hd N x 2 (by omega) h1
      have hpb := pr_size hd N b 3 (by omega) h2
      have hIx : ∀ n ∈ mts x, ACall Tryd.prog n_strconv_Itoa [.lit (.int .i64 n)] (.lit (.string (dec n))) := fun n hn => hI n (by simp [mts, hn])
      have hIb : ∀ n ∈ mts b, ACall Tryd.prog n_strconv_Itoa [.lit (.int .i64 n)] (.lit (.string (dec n))) := fun n hn => hI n (by simp [mts, hn])
      by_cases hfun : ∃ f a, x = .app f a ∧ f.form = 3 ∧ f.nam = arrow
      · obtain ⟨f, a, rfl, hf3, hfn⟩ := hfun
        simp only [Tp.sz] at hs hx0
        have hpa := pr_size hd N a 1 (by omega) h1.2
        have hpbb := pr_size hd N b (if b.form = 5 then 1 else 0) (by omega) h2
        have e : partsOf (.app (.app f a) b) = (a, b, true) := by simp [partsOf, hf3, hfn]
        have hparts := parts_ok (.app (.app f a) b)
        rw [e] at hparts
        have hIa : ∀ n ∈ mts a, ACall Tryd.prog n_strconv_Itoa [.lit (.int .i64 n)] (.lit (.string (dec n))) := fun n hn => hIx n (by simp [mts, hn])
        refine acall_of_wc ttok mixed Tryd.func49 rfl (by rfl) (Nat.le_of_ble_eq_true rfl) (by kernel_rfl) ?_
        refine .inl ⟨_, hparts, ?_⟩
        refine ⟨fun _ => ?_, fun h => (by cases h)⟩
        refine .inl ⟨_, ih a 1 (by omega) h1.2 hIa, ?_⟩
        refine ⟨by simp only [ByteArray.size_append, q1, q2, q3, q4, q5, q6, q7]; omega, ?_⟩
        refine .inl ⟨_, boolean_ok _, ?_⟩
        have eb : IntKind.i64.wrap (0 + (if decide (b.form = 5) = true then 1 else 0)) = (((if b.form = 5 then 1 else 0) : Nat) : Int) := by
          by_cases hb5 : b.form = 5
          · simp [hb5]; decide
          · simp [hb5]; decide
        have ihb := ih b (if b.form = 5 then 1 else 0) (by omega) h2 hIb
        rw [← eb] at ihb
        refine .inl ⟨_, ihb, ?_⟩
        refine ⟨by simp only [ByteArray.size_append, q1, q2, q3, q4, q5, q6, q7]; omega, ?_⟩
        have epr : pr dec (.app (.app f a) b) how = brk (decide (how ≠ 0)) ((pr dec a 1 ++ ⟨#[32, 45, 62, 32]⟩) ++ pr dec b (if b.form = 5 then 1 else 0)) := by
          show (if f.form = 3 ∧ f.nam = arrow then _ else _) = _
          rw [if_pos ⟨hf3, hfn⟩]
        rw [epr]
        refine ⟨fun h => ?_, fun h => ?_⟩
        · have h : ¬ how = 0 := by simp at h; omega
          refine ⟨by simp only [ByteArray.size_append, q1, q2, q3, q4, q5, q6, q7]; omega, ?_⟩
          refine ⟨by simp only [ByteArray.size_append, q1, q2, q3, q4, q5, q6, q7]; omega, ?_⟩
          rw [decide_eq_true h]
          exact rfl
        · have h : how = 0 := by simp at h; omega
          rw [decide_eq_false (p := how ≠ 0) (by omega)]
          exact rfl
      · have e : partsOf (.app x b) = (.no, .no, false) := by
          cases x with
          | app f a => exact if_neg (fun h => hfun ⟨f, a, rfl, h⟩)
          | _ => rfl
        have hparts := parts_ok (.app x b)
        rw [e] at hparts
        have epr : pr dec (.app x b) how = brk (decide (how = 3)) ((pr dec x 2 ++ ⟨#[32]⟩) ++ pr dec b 3) := by
          cases x with
          | app f a => exact if_neg (fun h => hfun ⟨f, a, rfl, h⟩)
          | _ => rfl
        rw [epr]
        refine acall_of_wc ttok mixed Tryd.func49 rfl (by rfl) (Nat.le_of_ble_eq_true rfl) (by kernel_rfl) ?_
        refine .inl ⟨_, hparts, ?_⟩
        refine ⟨fun h => (by cases h), fun _ => ?_⟩
        refine ⟨fun h => (by cases h), fun _ => ?_⟩
        refine ⟨fun h => (by cases h), fun _ => ?_⟩
        refine ⟨fun h => (by cases h), fun _ => ?_⟩
        refine ⟨fun _ => ?_, fun h => (by cases h)⟩
        refine ⟨_, by decide, rfl, rfl, ?_⟩
        refine .inl ⟨_, ih x 2 (by omega) h1 hIx, ?_⟩
        refine ⟨by simp only [ByteArray.size_append, q1, q2, q3, q4, q5, q6, q7]; omega, ?_⟩
        refine ⟨_, by decide, rfl, rfl, ?_⟩
        refine .inl ⟨_, ih b 3 (by omega) h2 hIb, ?_⟩
        refine ⟨by simp only [ByteArray.size_append, q1, q2, q3, q4, q5, q6, q7]; omega, ?_⟩
        refine ⟨fun h => ?_, fun h => ?_⟩
        · have h : how = 3 := by simp at h; omega
          refine ⟨by simp only [ByteArray.size_append, q1, q2, q3, q4, q5, q6, q7]; omega, ?_⟩
          refine ⟨by simp only [ByteArray.size_append, q1, q2, q3, q4, q5, q6, q7]; omega, ?_⟩
          rw [decide_eq_true h]
          exact rfl
        · have h : ¬ how = 3 := by simp at h; omega
          rw [decide_eq_false h]
          exact rfl
end Go.Proofs.YtocglbflmkadeaaDoor
