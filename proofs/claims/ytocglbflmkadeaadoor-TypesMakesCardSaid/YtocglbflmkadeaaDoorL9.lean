/- A part of the proof of a given statement: contracts of functions of the program, under no condition but those that each states. -/
import Derived.Test.YtocglbflmkadeaaDoorL8
set_option linter.unusedSimpArgs false
set_option linter.unusedVariables false
namespace Go.Proofs.YtocglbflmkadeaaDoor
open Go Fp
set_option maxRecDepth 10000
set_option maxHeartbeats 4000000

/-- Where something stands in a list; -1: nowhere. -/
def ixI {α : Type} [DecidableEq α] (l : List α) (s : α) : Int := if s ∈ l then (l.idxOf s : Nat) else -1

theorem ixI_at {α : Type} [DecidableEq α] {l : List α} {s : α} {k : Nat} (hk : k < l.length) (h : l[k] = s) (hn : ∀ j, j < k → l[j]? ≠ some s) : ixI l s = (k : Nat) := by
  have hm : s ∈ l := h ▸ List.getElem_mem hk
  rw [ixI, if_pos hm]
  have h1 : l.idxOf s < l.length := List.idxOf_lt_length_iff.2 hm
  have h2 : l[l.idxOf s] = s := List.getElem_idxOf h1
  rcases Nat.lt_trichotomy (l.idxOf s) k with q | q | q
  · exact absurd (by rw [List.getElem?_eq_getElem h1, h2]) (hn _ q)
  · rw [q]
  · have := List.not_of_lt_findIdx (p := (· == s)) (xs := l) (i := k) q
    simp [h] at this
theorem not_mem_of {α : Type} {l : List α} {s : α} (hn : ∀ j, j < l.length → l[j]? ≠ some s) : s ∉ l := fun hm => by
  obtain ⟨j, hj, he⟩ := List.getElem_of_mem hm
  exact hn j hj (by rw [List.getElem?_eq_getElem hj, he])
theorem ixI_no {α : Type} [DecidableEq α] {l : List α} {s : α} (hn : s ∉ l) : ixI l s = -1 := by rw [ixI, if_neg hn]
/-- Has a list something? -/
def memb {α : Type} [DecidableEq α] (s : α) (l : List α) : Bool := decide (s ∈ l)
theorem memb_yes {α : Type} [DecidableEq α] {s : α} {l : List α} (h : s ∈ l) : memb s l = true := decide_eq_true h
theorem memb_no {α : Type} [DecidableEq α] {s : α} {l : List α} (h : s ∉ l) : memb s l = false := decide_eq_false h
theorem memb_iff {α : Type} [DecidableEq α] {s : α} {l : List α} : memb s l = true ↔ s ∈ l := decide_eq_true_iff
theorem ixI_ge {α : Type} [DecidableEq α] (l : List α) (s : α) : decide (0 ≤ ixI l s) = memb s l := by
  unfold ixI memb; split <;> rename_i h
  · rw [decide_eq_true h]; exact decide_eq_true (Int.natCast_nonneg _)
  · rw [decide_eq_false h]; rfl
theorem step_no {α : Type} {l : List α} {s : α} {k : Nat} (hk : k < l.length) (h : l[k] ≠ s) (hn : ∀ j, j < k → l[j]? ≠ some s) : ∀ j, j < k + 1 → l[j]? ≠ some s := fun j hj => by
  rcases Nat.lt_or_ge j k with q | q
  · exact hn j q
  · obtain rfl : j = k := by omega
    rw [List.getElem?_eq_getElem hk]; intro e; injection e with e; exact h e

theorem index_ok {l : List ByteArray} {s : ByteArray} (hl : l.length < 9223372036854775807) : ACall Tryd.prog n_slices_Index_stringstring [.sl (eSs l), .lit (.string s)] (.lit (.int .i64 (ixI l s))) := by
  refine acall_of_wc ttok mixed Tryd.func60 rfl (by rfl) (Nat.le_of_ble_eq_true rfl) (by kernel_rfl) ?_
  refine ⟨{k : Nat // k ≤ l.length ∧ ∀ j, j < k → l[j]? ≠ some s}, fun k => { vs := [(0, .v (.sl (eSs l))), (1, .v (.lit (.string s))), (7, .v (.lit (.int .i64 ((eSs l).length : Nat)))), (8, .v (.lit (.int .i64 (k.1 : Nat))))], ow := [] },
    fun k => l.length - k.1, ⟨0, Nat.zero_le _, fun j hj => absurd hj (by omega)⟩, ⟨⟨rfl, rfl, rfl, rfl, trivial⟩, trivial, rfl⟩, ?_⟩
  rintro ⟨k, hk, hn⟩
  have hlen : (eSs l).length = l.length := by simp [eSs]
  refine ⟨fun h => ?_, fun h => ?_⟩
  · have h : k < l.length := by simp [hlen] at h; omega
    refine ⟨_, by omega, getS h, rfl, ?_⟩
    refine ⟨fun h2 => ?_, fun h2 => ?_⟩
    · have h2 : l[k] = s := by simpa [eq_comm] using h2
      rw [ixI_at h h2 hn]
      exact rfl
    · have h2 : l[k] ≠ s := by intro e; simp [e] at h2
      refine ⟨⟨k + 1, h, step_no h h2 hn⟩, (show l.length - (k + 1) < l.length - k by omega), ⟨rfl, rfl, rfl, ?_, trivial⟩, trivial, rfl⟩
      exact congrArg (fun n => SV.v (AV.lit (Value.int .i64 n))) (wrap_succ (k := k) (by omega))
  · have h : k = l.length := by simp [hlen] at h; omega
    subst h
    rw [ixI_no (not_mem_of hn)]
    exact rfl

theorem indexI_ok {l : List Int} {s : Int} (hl : l.length < 9223372036854775807) : ACall Tryd.prog n_slices_Index_intint [.sl (eIs l), .lit (.int .i64 s)] (.lit (.int .i64 (ixI l s))) := by
  refine acall_of_wc ttok mixed Tryd.func66 rfl (by rfl) (Nat.le_of_ble_eq_true rfl) (by kernel_rfl) ?_
  refine ⟨{k : Nat // k ≤ l.length ∧ ∀ j, j < k → l[j]? ≠ some s}, fun k => { vs := [(0, .v (.sl (eIs l))), (1, .v (.lit (.int .i64 s))), (7, .v (.lit (.int .i64 ((eIs l).length : Nat)))), (8, .v (.lit (.int .i64 (k.1 : Nat))))], ow := [] },
    fun k => l.length - k.1, ⟨0, Nat.zero_le _, fun j hj => absurd hj (by omega)⟩, ⟨⟨rfl, rfl, rfl, rfl, trivial⟩, trivial, rfl⟩, ?_⟩
  rintro ⟨k, hk, hn⟩
  have hlen : (eIs l).length = l.length := by simp [eIs]
  refine ⟨fun h => ?_, fun h => ?_⟩
  · have h : k < l.length := by simp [hlen] at h; omega
    refine ⟨_, by omega, getI h, rfl, ?_⟩
    refine ⟨fun h2 => ?_, fun h2 => ?_⟩
    · have h2 : l[k] = s := by simpa [eq_comm] using h2
      rw [ixI_at h h2 hn]
      exact rfl
    · have h2 : l[k] ≠ s := by intro e; simp [e] at h2
      refine ⟨⟨k + 1, h, step_no h h2 hn⟩, (show l.length - (k + 1) < l.length - k by omega), ⟨rfl, rfl, rfl, ?_, trivial⟩, trivial, rfl⟩
      exact congrArg (fun n => SV.v (AV.lit (Value.int .i64 n))) (wrap_succ (k := k) (by omega))
  · have h : k = l.length := by simp [hlen] at h; omega
    subst h
    rw [ixI_no (not_mem_of hn)]
    exact rfl

theorem contains_ok {l : List ByteArray} {s : ByteArray} (hl : l.length < 9223372036854775807) : ACall Tryd.prog n_slices_Contains_stringstring [.sl (eSs l), .lit (.string s)] (.sb (memb s l)) := by
  refine acall_of_wc ttok mixed Tryd.func56 rfl (by rfl) (Nat.le_of_ble_eq_true rfl) (by kernel_rfl) ?_
  refine .inl ⟨_, index_ok hl, ?_⟩
  rw [← ixI_ge]
  exact rfl
theorem containsI_ok {l : List Int} {s : Int} (hl : l.length < 9223372036854775807) : ACall Tryd.prog n_slices_Contains_intint [.sl (eIs l), .lit (.int .i64 s)] (.sb (memb s l)) := by
  refine acall_of_wc ttok mixed Tryd.func58 rfl (by rfl) (Nat.le_of_ble_eq_true rfl) (by kernel_rfl) ?_
  refine .inl ⟨_, indexI_ok hl, ?_⟩
  rw [← ixI_ge]
  exact rfl

theorem has_ok {l : List ByteArray} {s : ByteArray} (hl : l.length < 9223372036854775807) : ACall Tryd.prog n_fugueref01_Has [.sl (eSs l), .lit (.string s)] (.sb (memb s l)) := by
  refine acall_of_wc ttok mixed Tryd.func39 rfl (by rfl) (Nat.le_of_ble_eq_true rfl) (by kernel_rfl) ?_
  refine ⟨{k : Nat // k ≤ l.length ∧ ∀ j, j < k → l[j]? ≠ some s}, fun k => { vs := [(0, .v (.sl (eSs l))), (1, .v (.lit (.string s))), (5, .v (.lit (.int .i64 (k.1 : Nat))))], ow := [] },
    fun k => l.length - k.1, ⟨0, Nat.zero_le _, fun j hj => absurd hj (by omega)⟩, ⟨⟨rfl, rfl, rfl, trivial⟩, trivial, rfl⟩, ?_⟩
  rintro ⟨k, hk, hn⟩
  have hlen : (eSs l).length = l.length := by simp [eSs]
  refine ⟨fun h => ?_, fun h => ?_⟩
  · have h : k < l.length := by simp [hlen] at h; omega
    refine ⟨_, by omega, getS h, rfl, ?_⟩
    refine ⟨fun h2 => ?_, fun h2 => ?_⟩
    · have h2 : l[k] = s := by simpa using h2
      rw [memb_yes (h2 ▸ List.getElem_mem h)]
      exact rfl
    · have h2 : l[k] ≠ s := by intro e; simp [e] at h2
      refine ⟨⟨k + 1, h, step_no h h2 hn⟩, (show l.length - (k + 1) < l.length - k by omega), ⟨rfl, rfl, ?_, trivial⟩, trivial, rfl⟩
      exact congrArg (fun n => SV.v (AV.lit (Value.int .i64 n))) (wrap_succ (k := k) (by omega))
  · have h : k = l.length := by simp [hlen] at h; omega
    subst h
    rw [memb_no (not_mem_of hn)]
    exact rfl

theorem at_ok {l : List ByteArray} {s : ByteArray} (hl : l.length < 9223372036854775807) : ACall Tryd.prog n_fugueref04_at [.sl (eSs l), .lit (.string s)] (.lit (.int .i64 (ixI l s))) := by
  refine acall_of_wc ttok mixed Tryd.func53 rfl (by rfl) (Nat.le_of_ble_eq_true rfl) (by kernel_rfl) ?_
  refine ⟨{k : Nat // k ≤ l.length ∧ ∀ j, j < k → l[j]? ≠ some s}, fun k => { vs := [(0, .v (.sl (eSs l))), (1, .v (.lit (.string s))), (5, .v (.lit (.int .i64 (k.1 : Nat))))], ow := [] },
    fun k => l.length - k.1, ⟨0, Nat.zero_le _, fun j hj => absurd hj (by omega)⟩, ⟨⟨rfl, rfl, rfl, trivial⟩, trivial, rfl⟩, ?_⟩
  rintro ⟨k, hk, hn⟩
  have hlen : (eSs l).length = l.length := by simp [eSs]
  refine ⟨fun h => ?_, fun h => ?_⟩
  · have h : k < l.length := by simp [hlen] at h; omega
    refine ⟨_, by omega, getS h, rfl, ?_⟩
    refine ⟨fun h2 => ?_, fun h2 => ?_⟩
    · have h2 : l[k] = s := by simpa using h2
      rw [ixI_at h h2 hn]
      exact rfl
    · have h2 : l[k] ≠ s := by intro e; simp [e] at h2
      refine ⟨⟨k + 1, h, step_no h h2 hn⟩, (show l.length - (k + 1) < l.length - k by omega), ⟨rfl, rfl, ?_, trivial⟩, trivial, rfl⟩
      exact congrArg (fun n => SV.v (AV.lit (Value.int .i64 n))) (wrap_succ (k := k) (by omega))
  · have h : k = l.length := by simp [hlen] at h; omega
    subst h
    rw [ixI_no (not_mem_of hn)]
    exact rfl

theorem all_mk (s : ByteArray) (t : Tp) : ACall Tryd.prog n_types_All [.lit (.string s), eTy t] (eTy (.all s t)) := by
  refine acall_of_wc ttok mixed Tryd.func21 rfl (by rfl) (Nat.le_of_ble_eq_true rfl) (by kernel_rfl) ?_
  refine .inl ⟨_, own_ok t, ?_⟩
  exact rfl
theorem meta_mk (n : Int) : ACall Tryd.prog n_types_Meta [.lit (.int .i64 n)] (eTy (.mt n)) := by
  refine acall_of_wc ttok mixed Tryd.func22 rfl (by rfl) (Nat.le_of_ble_eq_true rfl) (by kernel_rfl) ?_
  exact rfl
end Go.Proofs.YtocglbflmkadeaaDoor
