/- A part of the proof of a given statement: contracts of functions of the program, under no condition but those that each states. -/
import Derived.Test.YtocglbflmkadeaaDoorL33
set_option linter.unusedSimpArgs false
set_option linter.unusedVariables false
namespace Go.Proofs.YtocglbflmkadeaaDoor
open Go Fp
set_option maxRecDepth 100000
set_option maxHeartbeats 8000000

theorem back_ok (t : Tp) : appAllT (spHd t) (spAr t).reverse = t := by
  induction t with
  | app x b ihx _ =>
    unfold appAllT at ihx ⊢
    simp only [spHd, spAr, List.reverse_cons, List.foldl_append, List.foldl_cons, List.foldl_nil]
    rw [ihx]
  | _ => rfl
theorem spHd_form (t : Tp) : ¬ (spHd t).form = 4 := by
  induction t with
  | app x b ihx _ => exact ihx
  | _ => simp [spHd, Tp.form]
theorem ndec {p : Prop} [Decidable p] (hp : p) (h : (!decide p) = true) : False := by simp [hp] at h
theorem ndecf {p : Prop} [Decidable p] (hp : ¬ p) (h : decide p = true) : False := by simp [hp] at h

theorem typesMakes_ok {l : List Int} (hl : l.length < 9223372036854775808) (hr : ∀ x ∈ l, InR x) {m : List Int} (hm : m.length < 9223372036854775808) (hmr : ∀ x ∈ m, InR x) {n : Int} (hn : InR n) :
    ACall Tryd.prog n_fuguelaw04_TypesMakes [.sl (eIs l), .sl (eIs m), .lit (.int .i64 n)] (.sb true) := by
  obtain ⟨a, a1, ag, az⟩ := made_ok hl hr
  obtain ⟨b, b1, bg, bz⟩ := made_ok hm hmr
  obtain ⟨s, s4, s1⟩ := name_ok hn
  have c1 : ACall Tryd.prog n_types_Fun [eTy b, .sl (eTys [a])] (eTy (.app (.app (.con arrow) a) b)) := funT_ok b [a] (by simp)
  have c2 := split_ok (.app (.app (.con arrow) a) b)
  rw [show partsOf (.app (.app (.con arrow) a) b) = (a, b, true) from rfl] at c2
  have c3 : ACall Tryd.prog n_types_App [eTy a, .sl (eTys [b, a])] (eTy (.app (.app a b) a)) := appT_ok a [b, a] (by simp)
  have c4 := spine_ok (.app (.app a b) a) (by simp only [Tp.sz]; omega)
  have hlen : ((spAr (.app (.app a b) a)).reverse).length < 4294967296 := by
    have := spAr_len (.app (.app a b) a)
    simp only [Tp.sz] at this
    rw [List.length_reverse]; omega
  have c5 := appT_ok (spHd (.app (.app a b) a)) (spAr (.app (.app a b) a)).reverse hlen
  rw [back_ok] at c5
  have hh := spHd_form (.app (.app a b) a)
  obtain ⟨hd, hhd⟩ : ∃ hd, hd = spHd (.app (.app a b) a) := ⟨_, rfl⟩
  obtain ⟨ar, har⟩ : ∃ ar, ar = (spAr (.app (.app a b) a)).reverse := ⟨_, rfl⟩
  rw [← hhd, ← har] at c4 c5
  rw [← hhd] at hh
  have c6 := split_ok (.all s a)
  rw [show partsOf (.all s a) = (.no, .no, false) from rfl] at c6
  have c7 : ACall Tryd.prog n_types_Fun [eTy b, .sl (eTys [a, b])] (eTy (.app (.app (.con arrow) a) (.app (.app (.con arrow) b) b))) := funT_ok b [a, b] (by simp)
  have c8 : ACall Tryd.prog n_types_Fun [eTy a, .sl (eTys [])] (eTy a) := funT_ok a [] (by simp)
  refine acall_of_wc ttok mixed Tryd.func4 rfl (by rfl) (Nat.le_of_ble_eq_true rfl) (by kernel_rfl) ?_
  refine .inl ⟨_, a1, ?_⟩
  refine .inl ⟨_, b1, ?_⟩
  refine .inl ⟨_, s1, ?_⟩
  refine .inl ⟨_, c1, ?_⟩
  refine .inl ⟨_, c2, ?_⟩
  refine .inl ⟨_, c3, ?_⟩
  refine .inl ⟨_, c4, ?_⟩
  refine .inl ⟨_, c5, ?_⟩
  refine ⟨fun _ => ?_, fun h => (ndecf hh h).elim⟩
  refine .inl ⟨_, reffun_ok a b, ?_⟩
  refine .inl ⟨_, equal_ok _ _, ?_⟩
  refine ⟨fun _ => ?_, fun h => (ndec rfl h).elim⟩
  refine ⟨fun _ => ?_, fun h => by simp at h⟩
  refine .inl ⟨_, equal_ok _ _, ?_⟩
  refine ⟨fun _ => ?_, fun h => (ndec rfl h).elim⟩
  refine .inl ⟨_, equal_ok _ _, ?_⟩
  refine ⟨fun _ => ?_, fun h => (ndec rfl h).elim⟩
  refine .inl ⟨_, equal_ok _ _, ?_⟩
  refine ⟨fun h => (ndec rfl h).elim, fun _ => ?_⟩
  refine .inl ⟨_, all_mk s a, ?_⟩
  refine .inl ⟨_, c6, ?_⟩
  refine .inl ⟨_, c7, ?_⟩
  refine .inl ⟨_, reffun_ok b b, ?_⟩
  refine .inl ⟨_, reffun_ok a _, ?_⟩
  refine .inl ⟨_, equal_ok _ _, ?_⟩
  refine ⟨fun _ => ?_, fun h => (ndec rfl h).elim⟩
  refine .inl ⟨_, c8, ?_⟩
  refine .inl ⟨_, equal_ok _ _, ?_⟩
  refine ⟨fun _ => ?_, fun h => (ndec rfl h).elim⟩
  refine ⟨fun _ => ?_, fun h => (by cases h)⟩
  refine ⟨fun h => (by cases h), fun _ => ?_⟩
  refine .inl ⟨_, equal_ok (.all s a) (.all s a), ?_⟩
  refine ⟨fun _ => ?_, fun h => by simp at h⟩
  refine .inl ⟨_, meta_mk n, ?_⟩
  refine .inl ⟨_, equal_ok (.mt n) (.mt n), ?_⟩
  refine ⟨fun _ => ?_, fun h => by simp at h⟩
  refine .inl ⟨_, var_mk s, ?_⟩
  refine .inl ⟨_, equal_ok (.var s) (.var s), ?_⟩
  refine ⟨fun _ => ?_, fun h => by simp at h⟩
  refine .inl ⟨_, lives_ok, ?_⟩
  exact rfl
end Go.Proofs.YtocglbflmkadeaaDoor
