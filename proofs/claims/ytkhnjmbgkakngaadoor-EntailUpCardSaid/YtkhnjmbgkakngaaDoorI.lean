/- The document's By tells what the code's tells. -/
import Derived.Test.YtkhnjmbgkakngaaDoorH
set_option linter.unusedSimpArgs false
set_option linter.unusedVariables false
namespace Go.Proofs.YtkhnjmbgkakngaaDoor
open Go Fp
set_option maxRecDepth 10000
set_option maxHeartbeats 4000000
set_option linter.unusedVariables false
set_option linter.unusedSimpArgs false

end Go.Proofs.YtkhnjmbgkakngaaDoor

namespace Go.Proofs.YtkhnjmbgkakngaaDoor
open Go Fp
set_option maxRecDepth 10000
set_option maxHeartbeats 4000000
set_option linter.unusedVariables false
set_option linter.unusedSimpArgs false

/-- Elements, one behind the other, with a comma and a space between. -/
def cma : ByteArray := ⟨#[44, 32]⟩
def jnL (l : List (List UInt8)) : List UInt8 := ([44, 32] : List UInt8).intercalate l
def jn (l : List ByteArray) : ByteArray := ⟨(jnL (l.map (·.data.toList))).toArray⟩
theorem ba_ext {a b : ByteArray} (h : a.data.toList = b.data.toList) : a = b := by
  cases a; cases b; simp only at h; congr; exact Array.toList_inj.1 h
theorem jn_nil : jn [] = ⟨#[]⟩ := rfl
theorem jn_one (x : ByteArray) : jn [x] = x := ba_ext (by simp [jn, jnL, List.intercalate])
theorem jnL_snoc (l : List (List UInt8)) (y x : List UInt8) : jnL ((l ++ [y]) ++ [x]) = jnL (l ++ [y]) ++ [44, 32] ++ x := by
  unfold jnL
  induction l with
  | nil => simp [List.intercalate]
  | cons a r ih =>
    cases r with
    | nil => simp [List.intercalate] 
    | cons b r =>
      simp only [List.cons_append, List.intercalate, List.intersperse, List.flatten_cons] at ih ⊢
      have e : r ++ [y] ++ [x] = r ++ [y, x] := by simp
      rw [e] at ih
      rw [show r ++ [y] ++ [x] = r ++ [y, x] from e]
      simp only [List.append_assoc, List.nil_append, List.cons_append] at ih ⊢
      rw [ih]
theorem jn_snoc {l : List ByteArray} (hl : l ≠ []) (x : ByteArray) : jn (l ++ [x]) = jn l ++ cma ++ x := by
  refine ba_ext ?_
  obtain ⟨r, y, rfl⟩ : ∃ r y, l = r ++ [y] := ⟨l.dropLast, l.getLast hl, (List.dropLast_concat_getLast hl).symm⟩
  have := jnL_snoc (r.map (·.data.toList)) y.data.toList x.data.toList
  simp only [jn, List.map_append, List.map_cons, List.map_nil, this, ByteArray.data_append, Array.toList_append, cma]

noncomputable def prE (v : Ev) : ByteArray := Ev.rec (motive_1 := fun _ => ByteArray) (motive_2 := fun _ => List ByteArray) (fun f n _ ih => if f = 1 then ⟨#[103]⟩ ++ dcm n.toNat else (if f = 2 then ⟨#[115]⟩ else ⟨#[105]⟩) ++ dcm n.toNat ++ ⟨#[40]⟩ ++ jn ih ++ ⟨#[41]⟩) [] (fun _ _ h t => h :: t) v
noncomputable def prEs (l : List Ev) : List ByteArray := Ev.rec_1 (motive_1 := fun _ => ByteArray) (motive_2 := fun _ => List ByteArray) (fun f n _ ih => if f = 1 then ⟨#[103]⟩ ++ dcm n.toNat else (if f = 2 then ⟨#[115]⟩ else ⟨#[105]⟩) ++ dcm n.toNat ++ ⟨#[40]⟩ ++ jn ih ++ ⟨#[41]⟩) [] (fun _ _ h t => h :: t) l
theorem prEs_map (l : List Ev) : prEs l = l.map prE := by
  induction l with
  | nil => rfl
  | cons v r ih => rw [List.map_cons, ← ih]; rfl
theorem prE_mk (f n : Int) (ks : List Ev) : prE (.mk f n ks) = if f = 1 then ⟨#[103]⟩ ++ dcm n.toNat else (if f = 2 then ⟨#[115]⟩ else ⟨#[105]⟩) ++ dcm n.toNat ++ ⟨#[40]⟩ ++ jn (ks.map prE) ++ ⟨#[41]⟩ := by
  rw [← prEs_map]; rfl
inductive EvOk : Ev → Prop
  | mk {f : Int} {n : Nat} {ks : List Ev} : n < 100 → ks.length < 100000 → (jn (ks.map prE)).size < 1000000000 → (∀ k ∈ ks, EvOk k) → EvOk (.mk f (n : Nat) ks)

theorem getEv {l : List Ev} {k : Nat} (h : k < l.length) : (eEvs l)[k]? = some (eV l[k]) := by simp [eEvs_map, h, eV_eq]
theorem rsame_ok {v : Ev} (h : EvOk v) : ACall Tryd.prog n_fugueref12_Equal [eV v, eV v] (.sb true) := by
  induction h with
  | @mk f n ks hn hl hj hk ih =>
    refine acall_of_wcx ttok mixed Tryd.func22 rfl (by rfl) (Nat.le_of_ble_eq_true rfl) (by kernel_rfl) ?_
    refine ⟨fun hbs => ?_, fun hbs => ?_⟩ <;> first | (exfalso; revert hbs; (simp); done) | skip
    refine ⟨fun hbs => ?_, fun hbs => ?_⟩ <;> first | (exfalso; revert hbs; (simp); done) | skip
    refine ⟨fun hbs => ?_, fun hbs => ?_⟩ <;> first | (exfalso; revert hbs; (simp); done) | skip
    refine ⟨{k : Nat // k ≤ ks.length}, fun k => { vs := [(2, .box 0 (eV (.mk f (n : Nat) ks))), (3, .box 0 (eV (.mk f (n : Nat) ks))), (5, sv (k.1 : Nat))] },
      fun k => ks.length - k.1, ⟨0, Nat.zero_le _⟩, ⟨⟨rfl, rfl, rfl, trivial⟩, trivial, rfl⟩, ?_⟩
    rintro ⟨k, hkl⟩
    refine ⟨fun h => ?_, fun h => ?_⟩
    · have h : k < ks.length := by have h : (k : Int) < ((eEvs ks).length : Nat) := of_decide_eq_true h; rw [eEvs_len] at h; omega
      refine ⟨_, by omega, getEv h, rfl, ?_⟩
      refine ⟨_, by omega, getEv h, rfl, ?_⟩
      refine .inl ⟨_, ih _ (List.getElem_mem h), ?_⟩
      refine ⟨by kernel_rfl, ?_⟩
      refine ⟨fun hbs => ?_, fun hbs => ?_⟩ <;> first | (exfalso; revert hbs; (simp); done) | skip
      exact ⟨⟨k + 1, h⟩, (show ks.length - (k + 1) < ks.length - k by omega), ⟨rfl, rfl, svc (wrap_succ (k := k) (by omega)), trivial⟩, trivial, rfl⟩
    · exact rfl

/-- What stands ahead of the kids. -/
noncomputable def hdE (f : Int) (n : Nat) : ByteArray := (if f = 2 then ⟨#[115]⟩ else ⟨#[105]⟩) ++ dcm n ++ ⟨#[40]⟩
theorem dcm_sz2 {n : Nat} (h : n < 100) : (dcm n).size ≤ 2 := dcm_size 2 n (by omega) (by decide)
theorem hdE_size {f : Int} {n : Nat} (h : n < 100) : (hdE f n).size ≤ 4 := by
  have := dcm_sz2 h
  unfold hdE
  split <;> simp only [ByteArray.size_append] <;> show 1 + (dcm n).size + 1 ≤ 4 <;> omega
theorem jn_take {l : List Ev} {k : Nat} (h : k < l.length) (h0 : 0 < k) : jn ((l.take (k + 1)).map prE) = jn ((l.take k).map prE) ++ cma ++ prE l[k] := by
  rw [List.take_succ_eq_append_getElem h, List.map_append]
  exact jn_snoc (by cases l <;> simp at h ⊢; omega) _
theorem jn_le {l : List ByteArray} {x : ByteArray} : (jn l).size ≤ (jn (l ++ [x])).size ∧ x.size ≤ (jn (l ++ [x])).size := by
  by_cases hl : l = []
  · subst hl; rw [List.nil_append, jn_one]; exact ⟨Nat.zero_le _, Nat.le_refl _⟩
  · rw [jn_snoc hl]; simp only [ByteArray.size_append]; omega
theorem jn_pre (l : List ByteArray) : ∀ k, (jn (l.take k)).size ≤ (jn l).size := by
  have go : ∀ d k, k + d = l.length → (jn (l.take k)).size ≤ (jn l).size := fun d => by
    induction d with
    | zero => intro k h; rw [List.take_of_length_le (by omega)]; exact Nat.le_refl _
    | succ d ih =>
      intro k h
      refine Nat.le_trans ?_ (ih (k + 1) (by omega))
      rw [List.take_succ_eq_append_getElem (by omega)]
      exact jn_le.1
  intro k
  by_cases h : k ≤ l.length
  · exact go (l.length - k) k (by omega)
  · rw [List.take_of_length_le (by omega)]; exact Nat.le_refl _
theorem jn_mem {l : List ByteArray} {k : Nat} (h : k < l.length) : l[k].size ≤ (jn l).size := by
  refine Nat.le_trans ?_ (jn_pre l (k + 1))
  rw [List.take_succ_eq_append_getElem h]
  exact jn_le.2
end Go.Proofs.YtkhnjmbgkakngaaDoor
