/- A part of the proof of a given statement: contracts of functions of the program, under no condition but those that each states. -/
import Derived.Test.YtocglbflmkadeaaDoorL14
set_option linter.unusedSimpArgs false
set_option linter.unusedVariables false
namespace Go.Proofs.YtocglbflmkadeaaDoor
open Go Fp
set_option maxRecDepth 100000
set_option maxHeartbeats 4000000

/-- How many names and numbers there are. -/
def size : Tp → Nat
  | .app a b => size a + size b
  | .all _ a => 1 + size a
  | _ => 1
theorem size_le (t : Tp) : size t ≤ t.sz := by
  induction t with
  | app a b iha ihb => simp only [size, Tp.sz]; omega
  | all s a ih => simp only [size, Tp.sz]; omega
  | _ => simp [size, Tp.sz]
def sums (n : Nat) (l : List Tp) : Nat := l.foldl (fun n a => n + size a) n
theorem sums_take {l : List Tp} {n k : Nat} (h : k < l.length) : sums n (l.take (k + 1)) = sums n (l.take k) + size l[k] := by
  simp only [sums, List.take_succ_eq_append_getElem h, List.foldl_append, List.foldl_cons, List.foldl_nil]
theorem sums_size (t : Tp) : sums (if t.form = 4 then 0 else 1) t.args = size t := by
  cases t <;> simp [sums, size, Tp.args, Tp.form]
theorem sums_room (t : Tp) (n : Nat) {k : Nat} (h : k < t.args.length) : sums n (t.args.take k) + size t.args[k] ≤ n + t.sz := by
  cases t with
  | app a b =>
    have := size_le a
    have := size_le b
    match k, h with
    | 0, _ => simp [sums, Tp.args, Tp.sz]; omega
    | 1, _ => simp [sums, Tp.args, Tp.sz]; omega
    | k + 2, h => simp [Tp.args] at h; omega
  | all s a =>
    have := size_le a
    match k, h with
    | 0, _ => simp [sums, Tp.args, Tp.sz]; omega
    | k + 1, h => simp [Tp.args] at h
  | _ => simp [Tp.args] at h

theorem size_step (t : Tp) (hs : t.sz < 1000000) (ih : ∀ a ∈ t.args, ACall Tryd.prog n_types_Size [eTy a] (.lit (.int .i64 (size a : Nat)))) : ACall Tryd.prog n_types_Size [eTy t] (.lit (.int .i64 (size t : Nat))) := by
  have hlen : t.eArgs.length = t.args.length := lenT t
  have h2 := args_le t
  obtain ⟨n, hn, hc⟩ : ∃ n, sums n t.args = size t ∧ ((t.form = 4 ∧ n = 0) ∨ (¬ t.form = 4 ∧ n = 1)) := by
    by_cases h : t.form = 4
    · exact ⟨0, by rw [← sums_size, if_pos h], .inl ⟨h, rfl⟩⟩
    · exact ⟨1, by rw [← sums_size, if_neg h], .inr ⟨h, rfl⟩⟩
  have hr := fun k h => sums_room t n (k := k) h
  have hn1 : n ≤ 1 := by omega
  refine acall_of_wc ttok mixed Tryd.func35 rfl (by rfl) (Nat.le_of_ble_eq_true rfl) (by kernel_rfl) ?_
  rw [← hn]
  rcases hc with ⟨h4, rfl⟩ | ⟨h4, rfl⟩
  refine ⟨fun _ => ?_, fun h => absurd h4 (by simpa using h)⟩
  rotate_left
  refine ⟨fun h => absurd (by simpa using h) h4, fun _ => ?_⟩
  all_goals
    refine ⟨{k : Nat // k ≤ t.args.length}, fun k => { vs := [(1, .box 0 (eTy t)), (3, .v (.lit (.int .i64 (sums _ (t.args.take k.1) : Nat)))), (10, .v (.sl t.eArgs)), (11, .v (.lit (.int .i64 (t.eArgs.length : Nat)))), (12, .v (.lit (.int .i64 (k.1 : Nat))))], ow := [] },
      fun k => t.args.length - k.1, ⟨0, Nat.zero_le _⟩, ⟨⟨rfl, rfl, rfl, rfl, rfl, trivial⟩, trivial, rfl⟩, ?_⟩
    rintro ⟨k, hk⟩
    refine ⟨fun h => ?_, fun h => ?_⟩
    · have h : k < t.args.length := by simp [hlen] at h; omega
      have hr := hr k h
      refine ⟨eTy t.args[k], by simp, by rw [t.eArgs_eq]; exact getT h, rfl, ?_⟩
      refine .inl ⟨_, ih _ (List.getElem_mem h), ?_⟩
      refine ⟨⟨k + 1, h⟩, (show t.args.length - (k + 1) < t.args.length - k by omega), ⟨rfl, ?_, rfl, rfl, ?_, trivial⟩, trivial, rfl⟩
      · rw [sums_take h]
        refine congrArg (fun n => SV.v (AV.lit (Value.int .i64 n))) ?_
        exact Eq.trans (congrArg IntKind.i64.wrap (Int.natCast_add _ _).symm) (wrap_nat (Nat.lt_of_le_of_lt hr (by omega)))
      · exact congrArg (fun n => SV.v (AV.lit (Value.int .i64 n))) (wrap_succ (k := k) (by omega))
    · have h : k = t.args.length := by simp [hlen] at h; omega
      subst h
      rw [List.take_length]
      exact rfl

theorem size_ok (N : Nat) (hN : N < 1000000) : ∀ t : Tp, t.sz ≤ N → ACall Tryd.prog n_types_Size [eTy t] (.lit (.int .i64 (size t : Nat))) := by
  induction N with
  | zero => intro t h; have := sz_pos t; omega
  | succ N ih => exact fun t h => size_step t (by omega) fun a ha => ih (by omega) a (setSz h a ha)

theorem rsize_step (t : Tp) (hs : t.sz < 1000000) (ih : ∀ a ∈ t.args, ACall Tryd.prog n_fugueref04_Size [eTy a] (.lit (.int .i64 (size a : Nat)))) : ACall Tryd.prog n_fugueref04_Size [eTy t] (.lit (.int .i64 (size t : Nat))) := by
  have hlen : t.eArgs.length = t.args.length := lenT t
  have h2 := args_le t
  obtain ⟨n, hn, hc⟩ : ∃ n, sums n t.args = size t ∧ ((t.form = 4 ∧ n = 0) ∨ (¬ t.form = 4 ∧ n = 1)) := by
    by_cases h : t.form = 4
    · exact ⟨0, by rw [← sums_size, if_pos h], .inl ⟨h, rfl⟩⟩
    · exact ⟨1, by rw [← sums_size, if_neg h], .inr ⟨h, rfl⟩⟩
  have hr := fun k h => sums_room t n (k := k) h
  have hn1 : n ≤ 1 := by omega
  refine acall_of_wc ttok mixed Tryd.func36 rfl (by rfl) (Nat.le_of_ble_eq_true rfl) (by kernel_rfl) ?_
  rw [← hn]
  rcases hc with ⟨h4, rfl⟩ | ⟨h4, rfl⟩
  refine ⟨fun h => absurd h4 (by simpa using h), fun _ => ?_⟩
  rotate_left
  refine ⟨fun _ => ?_, fun h => absurd (by simpa using h) h4⟩
  all_goals
    refine ⟨{k : Nat // k ≤ t.args.length}, fun k => { vs := [(1, .box 0 (eTy t)), (3, .v (.lit (.int .i64 (sums _ (t.args.take k.1) : Nat)))), (4, .v (.lit (.int .i64 (k.1 : Nat))))], ow := [] },
      fun k => t.args.length - k.1, ⟨0, Nat.zero_le _⟩, ⟨⟨rfl, rfl, rfl, trivial⟩, trivial, rfl⟩, ?_⟩
    rintro ⟨k, hk⟩
    refine ⟨fun h => ?_, fun h => ?_⟩
    · have h : k < t.args.length := by simp [hlen] at h; omega
      have hr := hr k h
      refine ⟨eTy t.args[k], by simp, by rw [t.eArgs_eq]; exact getT h, rfl, ?_⟩
      refine .inl ⟨_, ih _ (List.getElem_mem h), ?_⟩
      refine ⟨⟨k + 1, h⟩, (show t.args.length - (k + 1) < t.args.length - k by omega), ⟨rfl, ?_, ?_, trivial⟩, trivial, rfl⟩
      · rw [sums_take h]
        refine congrArg (fun n => SV.v (AV.lit (Value.int .i64 n))) ?_
        exact Eq.trans (congrArg IntKind.i64.wrap (Int.natCast_add _ _).symm) (wrap_nat (Nat.lt_of_le_of_lt hr (by omega)))
      · exact congrArg (fun n => SV.v (AV.lit (Value.int .i64 n))) (wrap_succ (k := k) (by omega))
    · have h : k = t.args.length := by simp [hlen] at h; omega
      subst h
      rw [List.take_length]
      exact rfl

theorem rsize_ok (N : Nat) (hN : N < 1000000) : ∀ t : Tp, t.sz ≤ N → ACall Tryd.prog n_fugueref04_Size [eTy t] (.lit (.int .i64 (size t : Nat))) := by
  induction N with
  | zero => intro t h; have := sz_pos t; omega
  | succ N ih => exact fun t h => rsize_step t (by omega) fun a ha => ih (by omega) a (setSz h a ha)

theorem sameTexts_ok (l : List ByteArray) (hl : l.length < 9223372036854775807) : ACall Tryd.prog n_fugueref01_SameTexts [.sl (eSs l), .sl (eSs l)] (.sb true) := by
  refine acall_of_wc ttok mixed Tryd.func29 rfl (by rfl) (Nat.le_of_ble_eq_true rfl) (by kernel_rfl) ?_
  have hlen : (eSs l).length = l.length := by simp [eSs]
  refine ⟨fun h => by simp at h, fun _ => ?_⟩
  refine ⟨{k : Nat // k ≤ l.length}, fun k => { vs := [(0, .v (.sl (eSs l))), (1, .v (.sl (eSs l))), (5, .v (.lit (.int .i64 (k.1 : Nat))))], ow := [] },
    fun k => l.length - k.1, ⟨0, Nat.zero_le _⟩, ⟨⟨rfl, rfl, rfl, trivial⟩, trivial, rfl⟩, ?_⟩
  rintro ⟨k, hk⟩
  refine ⟨fun h => ?_, fun h => ?_⟩
  · have h : k < l.length := by simp [hlen] at h; omega
    refine ⟨_, by omega, getS h, rfl, ?_⟩
    refine ⟨_, by omega, getS h, rfl, ?_⟩
    refine ⟨fun h => by simp at h, fun _ => ?_⟩
    refine ⟨⟨k + 1, h⟩, (show l.length - (k + 1) < l.length - k by omega), ⟨rfl, rfl, ?_, trivial⟩, trivial, rfl⟩
    exact congrArg (fun n => SV.v (AV.lit (Value.int .i64 n))) (wrap_succ (k := k) (by omega))
  · exact rfl
theorem sameInts_ok (l : List Int) (hl : l.length < 9223372036854775807) : ACall Tryd.prog n_fugueref01_SameInts [.sl (eIs l), .sl (eIs l)] (.sb true) := by
  refine acall_of_wc ttok mixed Tryd.func32 rfl (by rfl) (Nat.le_of_ble_eq_true rfl) (by kernel_rfl) ?_
  have hlen : (eIs l).length = l.length := by simp [eIs]
  refine ⟨fun h => by simp at h, fun _ => ?_⟩
  refine ⟨{k : Nat // k ≤ l.length}, fun k => { vs := [(0, .v (.sl (eIs l))), (1, .v (.sl (eIs l))), (5, .v (.lit (.int .i64 (k.1 : Nat))))], ow := [] },
    fun k => l.length - k.1, ⟨0, Nat.zero_le _⟩, ⟨⟨rfl, rfl, rfl, trivial⟩, trivial, rfl⟩, ?_⟩
  rintro ⟨k, hk⟩
  refine ⟨fun h => ?_, fun h => ?_⟩
  · have h : k < l.length := by simp [hlen] at h; omega
    refine ⟨_, by omega, getI h, rfl, ?_⟩
    refine ⟨_, by omega, getI h, rfl, ?_⟩
    refine ⟨fun h => by simp at h, fun _ => ?_⟩
    refine ⟨⟨k + 1, h⟩, (show l.length - (k + 1) < l.length - k by omega), ⟨rfl, rfl, ?_, trivial⟩, trivial, rfl⟩
    exact congrArg (fun n => SV.v (AV.lit (Value.int .i64 n))) (wrap_succ (k := k) (by omega))
  · exact rfl

theorem typesCounts_ok {l : List Int} (hl : l.length < 9223372036854775808) (hr : ∀ x ∈ l, InR x) : ACall Tryd.prog n_fuguelaw04_TypesCounts [.sl (eIs l)] (.sb true) := by
  obtain ⟨t, h1, _, hs⟩ := made_ok hl hr
  have hs : t.sz < 1000000 := by omega
  have hf := fv_length t
  have hm := mv_length t
  refine acall_of_wc ttok mixed Tryd.func7 rfl (by rfl) (Nat.le_of_ble_eq_true rfl) (by kernel_rfl) ?_
  refine .inl ⟨_, h1, ?_⟩
  refine .inl ⟨_, free_ok t.sz hs t (Nat.le_refl _), ?_⟩
  refine .inl ⟨_, rFree_ok t hs, ?_⟩
  refine .inl ⟨_, sameTexts_ok _ (by omega), ?_⟩
  refine ⟨fun _ => ?_, fun h => by simp at h⟩
  refine .inl ⟨_, metas_ok t.sz hs t (Nat.le_refl _), ?_⟩
  refine .inl ⟨_, rMetas_ok t hs, ?_⟩
  refine .inl ⟨_, sameInts_ok _ (by omega), ?_⟩
  refine ⟨fun _ => ?_, fun h => by simp at h⟩
  refine .inl ⟨_, size_ok t.sz hs t (Nat.le_refl _), ?_⟩
  refine .inl ⟨_, rsize_ok t.sz hs t (Nat.le_refl _), ?_⟩
  refine ⟨fun _ => ?_, fun h => by simp at h⟩
  refine .inl ⟨_, lives_ok, ?_⟩
  exact rfl
end Go.Proofs.YtocglbflmkadeaaDoor
