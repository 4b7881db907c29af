/- A part of the proof of a given statement: contracts of functions of the program, under no condition but those that each states. -/
import Derived.Test.YtocglbflmkadeaaDoorL28
set_option linter.unusedSimpArgs false
set_option linter.unusedVariables false
namespace Go.Proofs.YtocglbflmkadeaaDoor
open Go Fp
set_option maxRecDepth 100000
set_option maxHeartbeats 8000000

def decI (n : Int) : ByteArray := if n.toNat < 100 then dcm n.toNat else .empty
theorem decI_size (n : Int) : (decI n).size ≤ 30 := by
  unfold decI
  split
  · have := dcm_size 2 n.toNat (by omega) (by decide); omega
  · decide
theorem decI_nat {k : Nat} (h : k < 10) : decI (k : Int) = dcm k := by unfold decI; rw [if_pos (by simp; omega)]; rfl

theorem good_itoa {t : Tp} (h : good t) : ∀ n ∈ mts t, ACall Tryd.prog n_strconv_Itoa [.lit (.int .i64 n)] (.lit (.string (decI n))) := by
  induction t with
  | mt m =>
    intro n hn
    simp [mts] at hn
    subst hn
    obtain ⟨k, rfl, hk⟩ := h
    rw [decI_nat hk]
    exact itoa_ok (by omega)
  | app a b iha ihb =>
    intro n hn
    rcases List.mem_append.1 hn with hn | hn
    · exact iha h.1 n hn
    · exact ihb h.2 n hn
  | all s a ih => exact fun n hn => ih h.2 n hn
  | _ => intro n hn; simp [mts] at hn

abbrev P0 (t : Tp) : ByteArray := pr decI t 0

theorem brk_t (s : ByteArray) : brk true s = (⟨#[40]⟩ ++ s) ++ ⟨#[41]⟩ := rfl
theorem brk_f (s : ByteArray) : brk false s = s := rfl

theorem isFun_app {f a b : Tp} : isFun (.app (.app f a) b) = true ↔ (f.form = 3 ∧ f.nam = arrow) := by simp [isFun]
theorem isFun_shape {t : Tp} (h : isFun t = true) : ∃ a b, t = .app (.app (.con arrow) a) b := by
  cases t with
  | app x b => cases x with
    | app f a =>
      obtain ⟨h1, h2⟩ := isFun_app.1 h
      obtain ⟨s, rfl⟩ := Tp.is_con h1
      have : s = arrow := h2
      subst this
      exact ⟨a, b, rfl⟩
    | _ => cases h
  | _ => cases h

theorem pr_fun (dec : Int → ByteArray) (a b : Tp) (h : Nat) : pr dec (.app (.app (.con arrow) a) b) h = brk (decide (h ≠ 0)) ((pr dec a 1 ++ ⟨#[32, 45, 62, 32]⟩) ++ pr dec b (if b.form = 5 then 1 else 0)) := by
  show (if _ then _ else _) = _
  rw [if_pos ⟨rfl, rfl⟩]
theorem pr_app (dec : Int → ByteArray) {x b : Tp} (hf : isFun (.app x b) = false) (h : Nat) : pr dec (.app x b) h = brk (decide (h = 3)) ((pr dec x 2 ++ ⟨#[32]⟩) ++ pr dec b 3) := by
  cases x with
  | app f a =>
    show (if _ then _ else _) = _
    rw [if_neg (fun e => by rw [isFun_app.2 e] at hf; cases hf)]
  | _ => rfl

theorem isFun_form {t : Tp} (h : ¬ t.form = 4) : isFun t = false := by cases t <;> first | rfl | exact absurd rfl h

theorem pr_12 (dec : Int → ByteArray) (t : Tp) (h : Nat) (h1 : h = 1 ∨ h = 2) : pr dec t h = brk (isFun t || decide (t.form = 5)) (pr dec t 0) := by
  have h0 : ¬ h = 0 := by omega
  have h3 : ¬ h = 3 := by omega
  by_cases hf : isFun t = true
  · obtain ⟨a, b, rfl⟩ := isFun_shape hf
    rw [hf, pr_fun, pr_fun, decide_eq_true (p := h ≠ 0) h0]
    rfl
  · have hf : isFun t = false := by simpa using hf
    rw [hf]
    cases t with
    | app x b =>
      rw [pr_app dec hf, pr_app dec hf, decide_eq_false (p := h = 3) h3]
      rfl
    | all s a => simp only [pr]; rw [decide_eq_true (p := h ≠ 0) h0]; rfl
    | _ => rfl
theorem pr_3 (dec : Int → ByteArray) (t : Tp) : pr dec t 3 = brk (decide (t.form = 4) || decide (t.form = 5)) (pr dec t 0) := by
  cases t with
  | app x b =>
    by_cases hf : isFun (.app x b) = true
    · obtain ⟨a, c, e⟩ := isFun_shape hf
      rw [e, pr_fun, pr_fun]; rfl
    · have hf : isFun (.app x b) = false := by simpa using hf
      rw [pr_app dec hf, pr_app dec hf]; rfl
  | _ => rfl
theorem pr_01 (dec : Int → ByteArray) (t : Tp) : pr dec t (if t.form = 5 then 1 else 0) = brk (decide (t.form = 5)) (pr dec t 0) := by
  by_cases h : t.form = 5
  · obtain ⟨s, a, rfl⟩ := Tp.is_all h
    rfl
  · rw [if_neg h, decide_eq_false h]; rfl

theorem bracket_ok {s : ByteArray} {b : Bool} (h : s.size ≤ 1000000000) : ACall Tryd.prog n_fugueref04_bracket [.lit (.string s), .sb b] (.lit (.string (brk b s))) := by
  refine acall_of_wc ttok mixed Tryd.func50 rfl (by rfl) (Nat.le_of_ble_eq_true rfl) (by kernel_rfl) ?_
  refine ⟨fun e => ?_, fun e => ?_⟩
  · subst e
    refine ⟨by rw [sz1]; omega, ?_⟩
    refine ⟨by rw [ByteArray.size_append, sz1, sz1]; omega, ?_⟩
    exact rfl
  · subst e; exact rfl

theorem rprint_ok (N : Nat) (hN : N < 1000000) : ∀ t : Tp, t.sz ≤ N → good t → ACall Tryd.prog n_fugueref04_Print [eTy t] (.lit (.string (P0 t))) := by
  have q2 : (ByteArray.mk #[102, 111, 114, 97, 108, 108, 32]).size = 7 := rfl
  have q3 : (ByteArray.mk #[46, 32]).size = 2 := rfl
  have q4 : (ByteArray.mk #[32, 45, 62, 32]).size = 4 := rfl
  have psz : ∀ t : Tp, good t → (P0 t).size + 10 ≤ 50 * t.sz := fun t h => pr_size decI_size t.sz t 0 (Nat.le_refl _) (good_fine t h)
  have bsz : ∀ (t : Tp) (b : Bool), good t → (brk b (P0 t)).size + 8 ≤ 50 * t.sz := fun t b h => by have := brk_size b (P0 t); have := psz t h; omega
  induction N with
  | zero => intro t h; have := sz_pos t; omega
  | succ N ih =>
    intro t hs hg
    have ih := ih (by omega)
    cases t with
    | no => exact hg.elim
    | mt n =>
      obtain ⟨k, rfl, hk⟩ := hg
      have := dcm_size 1 k (by omega) (by decide)
      have e : P0 (.mt (k : Int)) = ⟨#[63]⟩ ++ dcm k := by show _ ++ decI _ = _; rw [decI_nat hk]
      rw [e]
      refine acall_of_wc ttok mixed Tryd.func25 rfl (by rfl) (Nat.le_of_ble_eq_true rfl) (by kernel_rfl) ?_
      refine .inl ⟨_, function_ok _, ?_⟩
      refine ⟨fun h => (by cases h), fun _ => ?_⟩
      refine ⟨fun _ => ?_, fun h => (by cases h)⟩
      refine .inl ⟨_, decimal_ok k k (Nat.le_refl _) (by omega), ?_⟩
      refine ⟨by rw [sz1]; omega, ?_⟩
      exact rfl
    | var s =>
      have := small4_size s hg
      refine acall_of_wc ttok mixed Tryd.func25 rfl (by rfl) (Nat.le_of_ble_eq_true rfl) (by kernel_rfl) ?_
      refine .inl ⟨_, function_ok _, ?_⟩
      refine ⟨fun h => (by cases h), fun _ => ?_⟩
      refine ⟨fun h => (by cases h), fun _ => ?_⟩
      refine ⟨fun h => (by cases h), fun _ => ?_⟩
      refine ⟨fun h => (by cases h), fun _ => ?_⟩
      refine ⟨fun h => (by cases h), fun _ => ?_⟩
      refine .inl ⟨_, bracket_ok (s := s) (b := false) (by omega), ?_⟩
      exact rfl
    | con s =>
      have := small6_size s hg
      refine acall_of_wc ttok mixed Tryd.func25 rfl (by rfl) (Nat.le_of_ble_eq_true rfl) (by kernel_rfl) ?_
      refine .inl ⟨_, function_ok _, ?_⟩
      refine ⟨fun h => (by cases h), fun _ => ?_⟩
      refine ⟨fun h => (by cases h), fun _ => ?_⟩
      refine ⟨fun h => (by cases h), fun _ => ?_⟩
      refine ⟨fun h => (by cases h), fun _ => ?_⟩
      refine ⟨fun _ => ?_, fun h => (by cases h)⟩
      refine .inl ⟨_, bracket_ok (s := s) (b := decide (s = arrow)) (by omega), ?_⟩
      exact rfl
    | all s a =>
      simp only [Tp.sz] at hs
      have hss := small4_size s hg.1
      have hp := psz a hg.2
      refine acall_of_wc ttok mixed Tryd.func25 rfl (by rfl) (Nat.le_of_ble_eq_true rfl) (by kernel_rfl) ?_
      refine .inl ⟨_, function_ok _, ?_⟩
      refine ⟨fun h => (by cases h), fun _ => ?_⟩
      refine ⟨fun h => (by cases h), fun _ => ?_⟩
      refine ⟨fun h => (by cases h), fun _ => ?_⟩
      refine ⟨fun _ => ?_, fun h => (by cases h)⟩
      refine ⟨by show _ + s.size ≤ _; rw [q2]; omega, ?_⟩
      refine ⟨by simp only [ByteArray.size_append, q2, q3]; show 7 + s.size + _ ≤ _; omega, ?_⟩
      refine ⟨_, by decide, rfl, rfl, ?_⟩
      refine .inl ⟨_, ih a (by omega) hg.2, ?_⟩
      refine ⟨by simp only [ByteArray.size_append, q2, q3]; show 7 + s.size + 2 + _ ≤ _; omega, ?_⟩
      exact rfl
    | app x b =>
      simp only [Tp.sz] at hs
      by_cases hf : isFun (.app x b) = true
      · obtain ⟨a, c, e⟩ := isFun_shape hf
        injection e with e1 e2
        subst e1; subst e2
        have ga : good a := hg.1.2
        have gb : good b := hg.2
        simp only [Tp.sz] at hs
        have pa := psz a ga
        have pb := psz b gb
        have ba := fun q => bsz a q ga
        have bb := fun q => bsz b q gb
        have e : P0 (.app (.app (.con arrow) a) b) = (brk (isFun a || decide (a.form = 5)) (P0 a) ++ ⟨#[32, 45, 62, 32]⟩) ++ brk (decide (b.form = 5)) (P0 b) := by
          show pr decI _ 0 = _
          rw [pr_fun, pr_12 decI a 1 (.inl rfl), pr_01]; rfl
        rw [e]
        refine acall_of_wc ttok mixed Tryd.func25 rfl (by rfl) (Nat.le_of_ble_eq_true rfl) (by kernel_rfl) ?_
        refine .inl ⟨_, function_ok _, ?_⟩
        refine ⟨fun _ => ?_, fun h => (by cases h)⟩
        refine ⟨_, by decide, rfl, rfl, ?_⟩
        refine ⟨_, by decide, rfl, rfl, ?_⟩
        refine ⟨_, by decide, rfl, rfl, ?_⟩
        refine .inl ⟨_, function_ok a, ?_⟩
        refine .inl ⟨_, ih a (by omega) ga, ?_⟩
        refine ⟨fun h1 => ?_, fun h1 => ?_⟩
        · rw [h1, Bool.false_or]
          have := ba (decide (a.form = 5))
          have := bb (decide (b.form = 5))
          refine .inl ⟨_, bracket_ok (b := decide (a.form = 5)) (by omega), ?_⟩
          refine ⟨by rw [q4]; omega, ?_⟩
          refine .inl ⟨_, ih b (by omega) gb, ?_⟩
          refine .inl ⟨_, bracket_ok (b := decide (b.form = 5)) (by omega), ?_⟩
          refine ⟨by rw [ByteArray.size_append, q4]; omega, ?_⟩
          exact rfl
        · rw [h1]
          have := ba true
          have := bb (decide (b.form = 5))
          refine .inl ⟨_, bracket_ok (b := true) (by omega), ?_⟩
          refine ⟨by rw [q4]; omega, ?_⟩
          refine .inl ⟨_, ih b (by omega) gb, ?_⟩
          refine .inl ⟨_, bracket_ok (b := decide (b.form = 5)) (by omega), ?_⟩
          refine ⟨by rw [ByteArray.size_append, q4]; omega, ?_⟩
          exact rfl
      · have hf : isFun (.app x b) = false := by simpa using hf
        have gx : good x := hg.1
        have gb : good b := hg.2
        have px := psz x gx
        have pb := psz b gb
        have bx := fun q => bsz x q gx
        have bb := fun q => bsz b q gb
        have e : P0 (.app x b) = (brk (isFun x || decide (x.form = 5)) (P0 x) ++ ⟨#[32]⟩) ++ brk (decide (b.form = 4) || decide (b.form = 5)) (P0 b) := by
          show pr decI _ 0 = _
          rw [pr_app decI hf, pr_12 decI x 2 (.inr rfl), pr_3]; rfl
        rw [e]
        refine acall_of_wc ttok mixed Tryd.func25 rfl (by rfl) (Nat.le_of_ble_eq_true rfl) (by kernel_rfl) ?_
        refine .inl ⟨_, function_ok _, ?_⟩
        rw [hf]
        refine ⟨fun h => (by cases h), fun _ => ?_⟩
        refine ⟨fun h => (by cases h), fun _ => ?_⟩
        refine ⟨fun _ => ?_, fun h => (by cases h)⟩
        refine ⟨_, by decide, rfl, rfl, ?_⟩
        refine ⟨_, by decide, rfl, rfl, ?_⟩
        refine .inl ⟨_, function_ok x, ?_⟩
        refine .inl ⟨_, ih x (by omega) gx, ?_⟩
        refine ⟨fun h1 => ?_, fun h1 => ?_⟩
        · rw [h1, Bool.false_or]
          have := bx (decide (x.form = 5))
          refine .inl ⟨_, bracket_ok (b := decide (x.form = 5)) (by omega), ?_⟩
          refine ⟨by rw [sz1]; omega, ?_⟩
          refine .inl ⟨_, ih b (by omega) gb, ?_⟩
          refine ⟨fun h2 => ?_, fun h2 => ?_⟩
          · rw [h2, Bool.false_or]
            have := bb (decide (b.form = 5))
            refine .inl ⟨_, bracket_ok (b := decide (b.form = 5)) (by omega), ?_⟩
            refine ⟨by rw [ByteArray.size_append, sz1]; omega, ?_⟩
            exact rfl
          · rw [h2]
            have := bb true
            refine .inl ⟨_, bracket_ok (b := true) (by omega), ?_⟩
            refine ⟨by rw [ByteArray.size_append, sz1]; omega, ?_⟩
            exact rfl
        · rw [h1]
          have := bx true
          refine .inl ⟨_, bracket_ok (b := true) (by omega), ?_⟩
          refine ⟨by rw [sz1]; omega, ?_⟩
          refine .inl ⟨_, ih b (by omega) gb, ?_⟩
          refine ⟨fun h2 => ?_, fun h2 => ?_⟩
          · rw [h2, Bool.false_or]
            have := bb (decide (b.form = 5))
            refine .inl ⟨_, bracket_ok (b := decide (b.form = 5)) (by omega), ?_⟩
            refine ⟨by rw [ByteArray.size_append, sz1]; omega, ?_⟩
            exact rfl
          · rw [h2]
            have := bb true
            refine .inl ⟨_, bracket_ok (b := true) (by omega), ?_⟩
            refine ⟨by rw [ByteArray.size_append, sz1]; omega, ?_⟩
            exact rfl
end Go.Proofs.YtocglbflmkadeaaDoor
