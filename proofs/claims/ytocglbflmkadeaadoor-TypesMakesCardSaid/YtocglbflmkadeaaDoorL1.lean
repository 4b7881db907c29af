/- A part of the proof of a given statement: contracts of functions of the program, under no condition but those that each states. -/
import Derived.Test.YtocglbflmkadeaaDoorS1
import Derived.Test.YtocglbflmkadeaaDoorFpE
set_option linter.unusedSimpArgs false
set_option linter.unusedVariables false
namespace Go.Proofs.YtocglbflmkadeaaDoor
open Go Fp

def isFun : Tp → Bool
  | .app (.app f _) _ => decide (f.form = 3) && decide (f.nam = arrow)
  | _ => false

set_option maxRecDepth 10000
theorem function_ok (t : Tp) : ACall Tryd.prog n_fugueref04_Function [eTy t] (.sb (isFun t)) := by
  refine acall_of_wc ttok mixed Tryd.func13 rfl (by rfl) (Nat.le_of_ble_eq_true rfl) (by kernel_rfl) ?_
  refine ⟨fun h => ?_, fun h => ?_⟩
  · cases t <;> first | (simp [Tp.form] at h; done) | exact rfl
  · cases t <;> first | (simp [Tp.form] at h; done) | skip
    rename_i x y
    refine ⟨_, by decide, rfl, rfl, ?_⟩
    refine ⟨fun h => ?_, fun h => ?_⟩
    · cases x <;> first | (simp [Tp.form] at h; done) | exact rfl
    · cases x <;> first | (simp [Tp.form] at h; done) | skip
      rename_i f z
      refine ⟨_, by decide, rfl, rfl, ?_⟩
      refine ⟨_, by decide, rfl, rfl, ?_⟩
      refine ⟨fun h => ?_, fun h => ?_⟩
      · conv => whnf
        simp_all [isFun]
        rfl
      · conv => whnf
        simp_all [isFun]
        rfl
end Go.Proofs.YtocglbflmkadeaaDoor
