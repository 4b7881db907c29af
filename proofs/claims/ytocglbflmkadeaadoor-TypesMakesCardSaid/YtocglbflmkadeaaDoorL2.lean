/- A part of the proof of a given statement: contracts of functions of the program, under no condition but those that each states. -/
import Derived.Test.YtocglbflmkadeaaDoorS1
import Derived.Test.YtocglbflmkadeaaDoorFpE
set_option linter.unusedSimpArgs false
set_option linter.unusedVariables false
namespace Go.Proofs.YtocglbflmkadeaaDoor
open Go Fp
set_option maxRecDepth 10000

theorem getT {l : List Tp} {k : Nat} (h : k < l.length) : (eTys l)[k]? = some (eTy l[k]) := by
  simp [eTys, h]
theorem uniT (l : List Tp) : Uni 4 (eTys l) := fun a ha => by
  obtain ⟨x, _, rfl⟩ := List.mem_map.1 ha; rfl
theorem takeT {l : List Tp} {k : Nat} (h : k < l.length) : eTys (l.take k) ++ [eTy l[k]] = eTys (l.take (k + 1)) := by
  rw [List.take_succ_eq_append_getElem h]; unfold eTys; rw [List.map_append]; rfl
theorem args_le (t : Tp) : t.args.length ≤ 2 := by cases t <;> simp [Tp.args]
theorem wrap_nat {n : Nat} (h : n < 9223372036854775808) : IntKind.i64.wrap (n : Int) = n := by
  simp [IntKind.wrap, IntKind.signed, IntKind.bits, Int.bmod]; omega

theorem wrap_succ {k : Nat} (h : k + 1 < 9223372036854775808) : IntKind.i64.wrap ((k : Int) + 1) = ((k + 1 : Nat) : Int) := by
  have := wrap_nat h; simpa using this

theorem app_ok (a b : Tp) : ACall Tryd.prog n_fugueref04_app [eTy a, eTy b] (eTy (.app a b)) := by
  refine acall_of_wc ttok mixed Tryd.func44 rfl (by rfl) (Nat.le_of_ble_eq_true rfl) (by kernel_rfl) ?_
  exact rfl

theorem own_step (t : Tp) (ih : ∀ a ∈ t.args, ACall Tryd.prog n_types_own [eTy a] (eTy a)) : ACall Tryd.prog n_types_own [eTy t] (eTy t) := by
  refine acall_of_wc ttok mixed Tryd.func43 rfl (by rfl) (Nat.le_of_ble_eq_true rfl) (by kernel_rfl) ?_
  refine ⟨{k : Nat // k ≤ t.args.length}, fun k => { vs := [(1, .box 0 (eTy t)), (2, .box 0 (eTy .no)), (3, .v (.sl (eTys (t.args.take k.1)))), (7, .v (.sl t.eArgs)), (8, .v (.lit (.int .i64 (t.eArgs.length : Nat)))), (9, .v (.lit (.int .i64 (k.1 : Nat))))], ow := [(3, 0, 5)] },
    fun k => t.args.length - k.1, ⟨0, Nat.zero_le _⟩, ⟨⟨rfl, rfl, rfl, rfl, rfl, rfl, trivial⟩, ⟨trivial, trivial⟩, rfl⟩, ?_⟩
  rintro ⟨k, hk⟩
  have hlen : t.eArgs.length = t.args.length := by rw [t.eArgs_eq]; simp [eTys]
  have h2 := args_le t
  refine ⟨fun h => ?_, fun h => ?_⟩
  · have h : k < t.args.length := by simp [hlen] at h; omega
    refine ⟨eTy t.args[k], by simp, by rw [t.eArgs_eq]; exact getT h, rfl, ?_⟩
    refine .inl ⟨_, ih _ (List.getElem_mem h), ?_⟩
    refine ⟨by simp [eTys]; omega, uniT _, uniT [_], ?_⟩
    refine ⟨⟨k + 1, h⟩, by simp; omega, ⟨rfl, rfl, ?_, rfl, rfl, ?_, trivial⟩, ⟨rfl, trivial⟩, rfl⟩
    · exact congrArg (fun l => SV.v (AV.sl l)) (takeT h)
    · exact congrArg (fun l => SV.v (AV.lit (Value.int .i64 l))) (wrap_succ (k := k) (by omega))
  · have h : k = t.args.length := by simp [hlen] at h; omega
    subst h
    have : eTys (t.args.take t.args.length) = t.eArgs := by rw [List.take_length, t.eArgs_eq]
    show AV.agg [_, _, _, AV.sl (eTys (t.args.take t.args.length))] = _
    rw [this]; rfl

theorem own_ok (t : Tp) : ACall Tryd.prog n_types_own [eTy t] (eTy t) := by
  induction t with
  | app a b iha ihb => exact own_step _ (by simp [Tp.args]; exact ⟨iha, ihb⟩)
  | all s a ih => exact own_step _ (by simp [Tp.args]; exact ih)
  | _ => exact own_step _ (by simp [Tp.args])
end Go.Proofs.YtocglbflmkadeaaDoor
