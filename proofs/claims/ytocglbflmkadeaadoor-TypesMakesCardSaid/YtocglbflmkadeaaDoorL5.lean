/- A part of the proof of a given statement: contracts of functions of the program, under no condition but those that each states. -/
import Derived.Test.YtocglbflmkadeaaDoorL4
set_option linter.unusedSimpArgs false
set_option linter.unusedVariables false
namespace Go.Proofs.YtocglbflmkadeaaDoor
open Go Fp
set_option maxRecDepth 10000
set_option maxHeartbeats 4000000

theorem made_ok {l : List Int} (hl : l.length < 9223372036854775808) (hr : ∀ x ∈ l, InR x) : ∃ t : Tp, ACall Tryd.prog n_fugueref04_Made [.sl (eIs l)] (eTy t) ∧ good t ∧ t.sz ≤ 193 := by
  obtain ⟨t, rest, h1, h2, h3, h4, h5⟩ := build_ok (l.take 24).length (l.take 24) 0 true rfl (by simp; omega) (fun x hx => hr x (List.mem_of_mem_take hx)) (by simp; omega)
  refine ⟨t, ?_, h4, by simp at h5; omega⟩
  refine acall_of_wc ttok mixed Tryd.func11 rfl (by rfl) (Nat.le_of_ble_eq_true rfl) (by kernel_rfl) ?_
  refine .inl ⟨_, ints_ok (n := 24) hl (by decide), ?_⟩
  refine .inl ⟨_, h1, ?_⟩
  exact rfl

/-- What a function's type leads from and to. -/
def partsOf : Tp → Tp × Tp × Bool
  | .app (.app f a) b => if f.form = 3 ∧ f.nam = arrow then (a, b, true) else (.no, .no, false)
  | _ => (.no, .no, false)

theorem parts_ok (t : Tp) : ACall Tryd.prog n_types_parts [eTy t] (.tup [eTy (partsOf t).1, eTy (partsOf t).2.1, .sb (partsOf t).2.2]) := by
  refine acall_of_wc ttok mixed Tryd.func42 rfl (by rfl) (Nat.le_of_ble_eq_true rfl) (by kernel_rfl) ?_
  refine ⟨fun h => ?_, fun h => ?_⟩
  · obtain ⟨x, y, rfl⟩ := Tp.is_app (t := t) (by simpa using h)
    refine ⟨_, by decide, rfl, rfl, ?_⟩
    refine ⟨fun h => ?_, fun h => ?_⟩
    · have hx : ¬ x.form = 4 := by simpa using h
      have e : partsOf (.app x y) = (.no, .no, false) := by cases x <;> first | rfl | exact absurd rfl hx
      rw [e]; exact rfl
    · obtain ⟨f, z, rfl⟩ := Tp.is_app (t := x) (by simpa using h)
      refine ⟨_, by decide, rfl, rfl, ?_⟩
      refine ⟨_, by decide, rfl, rfl, ?_⟩
      refine ⟨fun h => ?_, fun h => ?_⟩
      · have hf : f.form = 3 := by simpa using h
        refine ⟨fun h => ?_, fun h => ?_⟩
        · have e : partsOf (.app (.app f z) y) = (.no, .no, false) := by simp at h; simp [partsOf, hf, h]
          rw [e]; exact rfl
        · have e : partsOf (.app (.app f z) y) = (z, y, true) := by simp at h; simp [partsOf, hf, h]
          rw [e]
          refine ⟨_, by decide, rfl, rfl, ?_⟩
          refine ⟨_, by decide, rfl, rfl, ?_⟩
          refine ⟨_, by decide, rfl, rfl, ?_⟩
          exact rfl
      · have hf : ¬ f.form = 3 := by simpa using h
        have e : partsOf (.app (.app f z) y) = (.no, .no, false) := by simp [partsOf, hf]
        rw [e]; exact rfl
  · have e : partsOf t = (.no, .no, false) := by cases t <;> first | (simp [Tp.form] at h; done) | rfl
    rw [e]; exact rfl
end Go.Proofs.YtocglbflmkadeaaDoor
