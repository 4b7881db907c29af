/- A part of the proof of a given statement: contracts of functions of the program, under no condition but those that each states. -/
import Derived.Test.YtocglbflmkadeaaDoorL7
set_option linter.unusedSimpArgs false
set_option linter.unusedVariables false
namespace Go.Proofs.YtocglbflmkadeaaDoor
open Go Fp
set_option maxRecDepth 10000
set_option maxHeartbeats 4000000

theorem tprint_ok {dec : Int → ByteArray} (hd : ∀ n, (dec n).size ≤ 30) (t : Tp) (hs : t.sz < 1000000) (hf : t.fine) (hI : ∀ n ∈ mts t, ACall Tryd.prog n_strconv_Itoa [.lit (.int .i64 n)] (.lit (.string (dec n)))) :
    ACall Tryd.prog n_types_Print [eTy t] (.lit (.string (pr dec t 0))) := by
  refine acall_of_wc ttok mixed Tryd.func24 rfl (by rfl) (Nat.le_of_ble_eq_true rfl) (by kernel_rfl) ?_
  refine .inl ⟨_, print_ok hd t.sz hs t 0 (Nat.le_refl _) hf hI, ?_⟩
  exact rfl

theorem lives_ok : ACall Tryd.prog n_fuguelaw04_lives [] (.sb true) := by
  refine acall_of_wc ttok mixed Tryd.func16 rfl (by rfl) (Nat.le_of_ble_eq_true rfl) (by kernel_rfl) ?_
  refine .inl ⟨_, var_mk _, ?_⟩
  refine .inl ⟨_, var_mk _, ?_⟩
  refine .inl ⟨_, var_mk _, ?_⟩
  refine .inl ⟨_, funT_ok (.var ⟨#[98]⟩) [.var ⟨#[97]⟩] (by decide), ?_⟩
  refine .inl ⟨_, con_mk _, ?_⟩
  refine .inl ⟨_, var_mk _, ?_⟩
  refine .inl ⟨_, appT_ok (.con ⟨#[70]⟩) [.var ⟨#[97]⟩] (by decide), ?_⟩
  refine .inl ⟨_, funT_ok (.var ⟨#[98]⟩) [funT (.var ⟨#[98]⟩) [.var ⟨#[97]⟩], appAllT (.con ⟨#[70]⟩) [.var ⟨#[97]⟩]] (by decide), ?_⟩
  refine .inl ⟨_, tprint_ok (dec := fun _ => .empty) (fun _ => by decide) _ (by decide) ?_ (fun n hn => by simp [mts, funT, appAllT] at hn), ?_⟩
  · simp only [funT, appAllT, Tp.fine, List.foldr, List.foldl]
    decide
  · exact congrArg AV.sb (decide_eq_true (by decide))

/-- A type that leads from a to b. -/
theorem partsOf_fun (t : Tp) : (partsOf t).2.2 = isFun t := by
  unfold partsOf isFun
  cases t with
  | app x b => cases x with
    | app f a => simp only []; split <;> simp_all
    | _ => rfl
  | _ => rfl

theorem partsOf_back (t : Tp) (h : (partsOf t).2.2 = true) : Tp.app (.app (.con arrow) (partsOf t).1) (partsOf t).2.1 = t := by
  cases t with
  | app x b => cases x with
    | app f a =>
      simp only [partsOf] at h ⊢
      split at h
      · rename_i hc
        rw [if_pos hc]
        obtain ⟨s, rfl⟩ := Tp.is_con hc.1
        have : s = arrow := hc.2
        rw [this]
      · cases h
    | _ => cases h
  | _ => cases h

theorem partsOf_no (t : Tp) (h : (partsOf t).2.2 = false) : partsOf t = (.no, .no, false) := by
  cases t with
  | app x b => cases x with
    | app f a =>
      simp only [partsOf] at h ⊢
      split at h
      · cases h
      · rename_i hc; rw [if_neg hc]
    | _ => rfl
  | _ => rfl

theorem typesSplits_ok {l : List Int} (hl : l.length < 9223372036854775808) (hr : ∀ x ∈ l, InR x) : ACall Tryd.prog n_fuguelaw04_TypesSplits [.sl (eIs l)] (.sb true) := by
  obtain ⟨t, h1, _, _⟩ := made_ok hl hr
  refine acall_of_wc ttok mixed Tryd.func3 rfl (by rfl) (Nat.le_of_ble_eq_true rfl) (by kernel_rfl) ?_
  refine .inl ⟨_, h1, ?_⟩
  refine .inl ⟨_, split_ok t, ?_⟩
  refine .inl ⟨_, function_ok t, ?_⟩
  refine ⟨fun h => ?_, fun h => ?_⟩
  · rw [partsOf_fun] at h; simp at h
  refine ⟨fun h => ?_, fun h => ?_⟩
  · refine .inl ⟨_, reffun_ok _ _, ?_⟩
    refine .inl ⟨_, equal_ok _ _, ?_⟩
    rw [partsOf_back t h]
    refine ⟨fun _ => ?_, fun h => by simp at h⟩
    refine .inl ⟨_, lives_ok, ?_⟩
    exact rfl
  · have e := partsOf_no t h
    rw [e]
    refine ⟨fun _ => ?_, fun h => (by cases h)⟩
    refine ⟨fun _ => ?_, fun h => (by cases h)⟩
    refine .inl ⟨_, lives_ok, ?_⟩
    exact rfl
end Go.Proofs.YtocglbflmkadeaaDoor
