/- A part of the proof of a given statement: contracts of functions of the program, under no condition but those that each states. -/
import Derived.Test.YtocglbflmkadeaaDoorL2
set_option linter.unusedSimpArgs false
set_option linter.unusedVariables false
namespace Go.Proofs.YtocglbflmkadeaaDoor
open Go Fp
set_option maxRecDepth 10000

theorem wrap_in {n : Int} (h : InR n) : IntKind.i64.wrap n = n := by
  unfold InR at h
  simp [IntKind.wrap, IntKind.signed, IntKind.bits]; omega

theorem getI {l : List Int} {k : Nat} (h : k < l.length) : (eIs l)[k]? = some (.lit (.int .i64 l[k])) := by simp [eIs, h]
theorem getS {l : List ByteArray} {k : Nat} (h : k < l.length) : (eSs l)[k]? = some (.lit (.string l[k])) := by simp [eSs, h]
theorem uniI (l : List Int) : Uni 1 (eIs l) := fun a ha => by obtain ⟨x, _, rfl⟩ := List.mem_map.1 ha; rfl
theorem uniS (l : List ByteArray) : Uni 1 (eSs l) := fun a ha => by obtain ⟨x, _, rfl⟩ := List.mem_map.1 ha; rfl
theorem uni1 {x : AV} {n : Nat} (h : x.cells.length = n) : Uni n [x] := fun a ha => by simp at ha; subst ha; exact h
theorem uni0 (n : Nat) : Uni n [] := fun a ha => by simp at ha

/-- Around's answer. -/
theorem around_ok {n m : Int} (hn : InR n) (hm : 0 < m) (hm2 : m < 9223372036854775808) : ∃ r : Nat, (r : Int) < m ∧ ACall Tryd.prog n_fugueref01_Around [.lit (.int .i64 n), .lit (.int .i64 m)] (.lit (.int .i64 (r : Nat))) := by
  have hn' := hn
  unfold InR at hn
  by_cases h0 : n < 0
  · have e1 : IntKind.i64.wrap (n + 1) = n + 1 := wrap_in (by unfold InR; omega)
    have e2 : IntKind.i64.wrap (0 - (n + 1)) = -(n + 1) := by rw [wrap_in (by unfold InR; omega)]; omega
    refine ⟨((-(n + 1)).tmod m).toNat, ?_, ?_⟩
    · have := Int.tmod_nonneg m (show 0 ≤ -(n + 1) by omega)
      have := Int.tmod_lt_of_pos (-(n + 1)) hm
      omega
    · refine acall_of_wc ttok mixed Tryd.func46 rfl (by rfl) (Nat.le_of_ble_eq_true rfl) (by kernel_rfl) ?_
      refine ⟨fun h => ?_, fun h => by simp at h; omega⟩
      refine ⟨by omega, ?_⟩
      conv => whnf
      have := Int.tmod_nonneg m (show 0 ≤ -(n + 1) by omega)
      show AV.lit (.int .i64 (Int.tmod (IntKind.i64.wrap (0 - IntKind.i64.wrap (n + 1))) m)) = _
      rw [e1, e2]
      congr 2; omega
  · refine ⟨(n.tmod m).toNat, ?_, ?_⟩
    · have := Int.tmod_nonneg m (show 0 ≤ n by omega)
      have := Int.tmod_lt_of_pos n hm
      omega
    · refine acall_of_wc ttok mixed Tryd.func46 rfl (by rfl) (Nat.le_of_ble_eq_true rfl) (by kernel_rfl) ?_
      refine ⟨fun h => by simp at h; omega, fun h => ?_⟩
      refine ⟨by omega, ?_⟩
      conv => whnf
      have := Int.tmod_nonneg m (show 0 ≤ n by omega)
      show AV.lit (.int .i64 (Int.tmod n m)) = _
      congr 2; omega

/-- The names and the constructors of a small world. -/
def small4 : List ByteArray := [⟨#[97]⟩, ⟨#[98]⟩, ⟨#[99]⟩, ⟨#[120]⟩]
def small6 : List ByteArray := [⟨#[73, 110, 116]⟩, ⟨#[66, 111, 111, 108]⟩, ⟨#[76]⟩, ⟨#[80]⟩, ⟨#[70]⟩, ⟨#[45, 62]⟩]
theorem small4_size : ∀ s ∈ small4, s.size ≤ 4 := by unfold small4; intro s h; simp at h; rcases h with rfl | rfl | rfl | rfl <;> decide
theorem small6_size : ∀ s ∈ small6, s.size ≤ 4 := by unfold small6; intro s h; simp at h; rcases h with rfl | rfl | rfl | rfl | rfl | rfl <;> decide

/-- A type of a small world. -/
def good : Tp → Prop
  | .app a b => good a ∧ good b
  | .all s a => s ∈ small4 ∧ good a
  | .var s => s ∈ small4
  | .con s => s ∈ small6
  | .mt n => ∃ k : Nat, n = (k : Int) ∧ k < 10
  | .no => False
theorem good_fine (t : Tp) (h : good t) : t.fine := by
  induction t with
  | no => exact h.elim
  | mt n => obtain ⟨k, rfl, hk⟩ := h; show InR _; unfold InR; omega
  | var s => exact small4_size s h
  | con s => exact small6_size s h
  | app a b iha ihb => exact ⟨iha h.1, ihb h.2⟩
  | all s a ih => exact ⟨small4_size s h.1, ih h.2⟩

theorem name_ok {n : Int} (hn : InR n) : ∃ s, s ∈ small4 ∧ ACall Tryd.prog n_fugueref04_Name [.lit (.int .i64 n)] (.lit (.string s)) := by
  obtain ⟨r, hr, hc⟩ := around_ok hn (m := 4) (by decide) (by decide)
  refine ⟨[⟨#[97]⟩, ⟨#[98]⟩, ⟨#[99]⟩, ⟨#[120]⟩].getD r .empty, ?_, ?_⟩
  · match r, hr with
    | 0, _ | 1, _ | 2, _ | 3, _ => simp [small4]
    | n + 4, h => omega
  · refine acall_of_wc ttok mixed Tryd.func17 rfl (by rfl) (Nat.le_of_ble_eq_true rfl) (by kernel_rfl) ?_
    refine .inl ⟨_, hc, ?_⟩
    match r, hr with
    | 0, _ | 1, _ | 2, _ | 3, _ => exact ⟨_, by decide, rfl, rfl, rfl⟩
    | n + 4, h => omega

theorem con_ok {n : Int} (hn : InR n) : ∃ s, s ∈ small6 ∧ ACall Tryd.prog n_fugueref04_Con [.lit (.int .i64 n)] (.lit (.string s)) := by
  obtain ⟨r, hr, hc⟩ := around_ok hn (m := 6) (by decide) (by decide)
  refine ⟨[⟨#[73, 110, 116]⟩, ⟨#[66, 111, 111, 108]⟩, ⟨#[76]⟩, ⟨#[80]⟩, ⟨#[70]⟩, ⟨#[45, 62]⟩].getD r .empty, ?_, ?_⟩
  · match r, hr with
    | 0, _ | 1, _ | 2, _ | 3, _ | 4, _ | 5, _ => simp [small6]
    | n + 6, h => omega
  · refine acall_of_wc ttok mixed Tryd.func62 rfl (by rfl) (Nat.le_of_ble_eq_true rfl) (by kernel_rfl) ?_
    refine .inl ⟨_, hc, ?_⟩
    match r, hr with
    | 0, _ | 1, _ | 2, _ | 3, _ | 4, _ | 5, _ => exact ⟨_, by decide, rfl, rfl, rfl⟩
    | n + 6, h => omega

theorem ints_ok {l : List Int} {n : Nat} (hl : l.length < 9223372036854775808) (hn : n ≤ 4294967296) : ACall Tryd.prog n_fugueref01_Ints [.sl (eIs l), .lit (.int .i64 (n : Nat))] (.sl (eIs (l.take n))) := by
  refine acall_of_wc ttok mixed Tryd.func41 rfl (by rfl) (Nat.le_of_ble_eq_true rfl) (by kernel_rfl) ?_
  have e1 : ((eIs l).length : Int) = l.length := by simp [eIs]
  refine ⟨by decide, ?_, ?_, .inl rfl, ?_⟩
  · show (0 : Int) ≤ (if ((n : Nat) : Int) < ((eIs l).length : Int) then _ else _); split <;> omega
  · show (if ((n : Nat) : Int) < ((eIs l).length : Int) then _ else _ : Int) ≤ _; split <;> omega
  · have e2 : ((eIs l).take (if ((n : Nat) : Int) < ((eIs l).length : Int) then ((n : Nat) : Int) else ((eIs l).length : Int)).toNat).drop (Int.toNat 0) = eIs (l.take n) := by
      rw [e1]
      unfold eIs
      rw [← List.map_take]
      split
      · simp
      · rw [List.take_of_length_le (by omega), List.take_of_length_le (by omega)]; simp
    refine ⟨?_, uni0 _, ?_, ?_⟩
    · show 0 + (List.drop _ _).length ≤ _
      rw [e2]; simp [eIs]; omega
    · show Uni 1 (List.drop _ _)
      rw [e2]; exact uniI _
    · show AV.sl ([] ++ List.drop _ _) = _
      rw [List.nil_append, e2]

theorem reffun_ok (a b : Tp) : ACall Tryd.prog n_fugueref04_Fun [eTy a, eTy b] (eTy (.app (.app (.con arrow) a) b)) := by
  refine acall_of_wc ttok mixed Tryd.func15 rfl (by rfl) (Nat.le_of_ble_eq_true rfl) (by kernel_rfl) ?_
  refine .inl ⟨_, app_ok (.con arrow) a, ?_⟩
  refine .inl ⟨_, app_ok (.app (.con arrow) a) b, ?_⟩
  exact rfl

end Go.Proofs.YtocglbflmkadeaaDoor
