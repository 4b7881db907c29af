/- A part of the proof of a given statement: contracts of functions of the program, under no condition but those that each states. -/
import Derived.Test.YtocglbflmkadeaaDoorL15
set_option linter.unusedSimpArgs false
set_option linter.unusedVariables false
namespace Go.Proofs.YtocglbflmkadeaaDoor
open Go Fp
set_option maxRecDepth 100000
set_option maxHeartbeats 4000000

/-- What digits say. -/
def digs (l : List UInt8) : Nat := l.foldl (fun v c => 10 * v + (c.toNat - 48)) 0
theorem digs_snoc (l : List UInt8) (c : UInt8) : digs (l ++ [c]) = 10 * digs l + (c.toNat - 48) := by simp [digs]
theorem ba_list (x : UInt8) : (ByteArray.mk #[x]).data.toList = [x] := rfl
theorem ba_app (a b : ByteArray) : (a ++ b).data.toList = a.data.toList ++ b.data.toList := by
  rw [show (a ++ b).data = a.data ++ b.data from ByteArray.data_append ..]; simp
theorem dcm_digs (n : Nat) : digs (dcm n).data.toList = n := by
  induction n using Nat.strongRecOn with
  | _ n ih =>
    by_cases h : n < 10
    · rw [dcm_small h, ba_list]
      simp [digs]; omega
    · rw [dcm_big h, ba_app, ba_list, digs_snoc, ih (n / 10) (by omega)]
      simp; omega
theorem dcm_ne (n : Nat) : 0 < (dcm n).data.toList.length := by
  by_cases h : n < 10
  · rw [dcm_small h]; simp
  · rw [dcm_big h, ba_app]; simp

/-- The number of a name. -/
def deco (s : ByteArray) : Nat := match s.data.toList with
  | [] => 0
  | [c] => c.toNat - 97
  | c :: r => 26 * digs r + (c.toNat - 97)
theorem deco_lett (n : Nat) : deco (lett n) = n := by
  unfold lett
  split
  · rename_i h
    unfold deco
    rw [ba_list]
    simp; omega
  · rename_i h
    have hd := dcm_digs (n / 26)
    have hn := dcm_ne (n / 26)
    unfold deco
    rw [ba_app, ba_list]
    cases hr : (dcm (n / 26)).data.toList with
    | nil => rw [hr] at hn; simp at hn
    | cons x r =>
      rw [hr] at hd
      show 26 * digs (x :: r) + _ = _
      rw [hd]
      simp; omega
theorem lett_inj {a b : Nat} (h : lett a = lett b) : a = b := by rw [← deco_lett a, h, deco_lett]

theorem nodup_len {α : Type} [DecidableEq α] : ∀ (l m : List α), l.Nodup → (∀ x ∈ l, x ∈ m) → l.length ≤ m.length
  | [], _, _, _ => by simp
  | x :: l, m, hn, hs => by
    have hx := hs x (by simp)
    have := nodup_len l (m.erase x) (List.nodup_cons.1 hn).2 (fun y hy => (List.mem_erase_of_ne (fun e : y = x => (List.nodup_cons.1 hn).1 (e ▸ hy))).2 (hs y (by simp [hy])))
    have := List.length_erase_of_mem hx
    have : 0 < m.length := List.length_pos_of_mem hx
    simp only [List.length_cons]; omega

theorem least (p : Nat → Prop) (n : Nat) (h : p n) : ∃ k, p k ∧ (∀ j, j < k → ¬ p j) ∧ k ≤ n := by
  induction n using Nat.strongRecOn with
  | _ n ih =>
    by_cases hx : ∃ j, j < n ∧ p j
    · obtain ⟨j, hj, hp⟩ := hx
      obtain ⟨k, h1, h2, h3⟩ := ih j hj hp
      exact ⟨k, h1, h2, by omega⟩
    · exact ⟨n, h, fun j hj hp => hx ⟨j, hj, hp⟩, Nat.le_refl _⟩

theorem deco_le (l : List ByteArray) : ∀ s ∈ l, deco s ≤ (l.map deco).sum := by
  induction l with
  | nil => simp
  | cons x l ih =>
    intro s hs
    simp only [List.map_cons, List.sum_cons]
    rcases List.mem_cons.1 hs with rfl | h
    · omega
    · have := ih s h; omega

theorem ff_ex (l : List ByteArray) : ∃ n, lett n ∉ l ∧ (∀ j, j < n → lett j ∈ l) := by
  obtain ⟨k, h1, h2, _⟩ := least (fun n => lett n ∉ l) ((l.map deco).sum + 1) (fun hm => by have := deco_le l _ hm; rw [deco_lett] at this; omega)
  exact ⟨k, h1, fun j hj => Classical.not_not.1 (h2 j hj)⟩

/-- The first of the names that is none of some. -/
noncomputable def ff (l : List ByteArray) : Nat := (ff_ex l).choose
theorem ff_new (l : List ByteArray) : lett (ff l) ∉ l := (ff_ex l).choose_spec.1
theorem ff_old (l : List ByteArray) : ∀ j, j < ff l → lett j ∈ l := (ff_ex l).choose_spec.2
theorem ff_len (l : List ByteArray) : ff l ≤ l.length := by
  have := nodup_len ((List.range (ff l)).map lett) l (by
    rw [List.nodup_iff_pairwise_ne] at *
    refine List.pairwise_map.2 (List.Pairwise.imp (fun h e => h (lett_inj e)) (List.nodup_range)))
    (fun x hx => by obtain ⟨j, hj, rfl⟩ := List.mem_map.1 hx; exact ff_old l j (by simpa using hj))
  simpa using this

/-- One of the first K names. -/
def Low (K : Nat) (s : ByteArray) : Prop := ∃ n, n < K ∧ lett n = s
theorem Low.mono {K L : Nat} {s : ByteArray} (h : Low K s) (hl : K ≤ L) : Low L s := let ⟨n, h1, h2⟩ := h; ⟨n, by omega, h2⟩
theorem ff_low {K : Nat} {l : List ByteArray} (h : ∀ s ∈ l, Low K s) : ff l ≤ K := by
  rcases Nat.lt_or_ge K (ff l) with q | q
  · obtain ⟨n, h1, h2⟩ := h _ (ff_old l K q)
    have := lett_inj h2; omega
  · exact q
theorem low_len {K : Nat} {l : List ByteArray} (hn : l.Nodup) (h : ∀ s ∈ l, Low K s) : l.length ≤ K := by
  have := nodup_len l ((List.range K).map lett) hn (fun x hx => by obtain ⟨n, h1, rfl⟩ := h x hx; exact List.mem_map.2 ⟨n, by simpa using h1, rfl⟩)
  simpa using this

theorem letter_ok {K : Nat} {l : List ByteArray} (hK : K < 2600) (h : ∀ s ∈ l, Low K s) (hl : l.length < 1000000000) : ACall Tryd.prog n_types_letter [.sl (eSs l)] (.lit (.string (lett (ff l)))) := by
  have hf := ff_low h
  have hfl := ff_len l
  refine acall_of_wc ttok mixed Tryd.func67 rfl (by rfl) (Nat.le_of_ble_eq_true rfl) (by kernel_rfl) ?_
  have e1 : IntKind.i64.wrap (((eSs l).length : Nat) + 1) = ((l.length + 1 : Nat) : Int) := by rw [show (eSs l).length = l.length by simp [eSs]]; exact wrap_succ (by omega)
  refine ⟨{k : Nat // k ≤ ff l}, fun k => { vs := [(0, .v (.sl (eSs l))), (7, .v (.lit (.int .i64 ((l.length + 1 : Nat) : Int)))), (8, .v (.lit (.int .i64 (k.1 : Nat))))], ow := [] },
    fun k => ff l - k.1, ⟨0, Nat.zero_le _⟩, ⟨⟨rfl, congrArg (fun n => SV.v (AV.lit (Value.int .i64 n))) e1, rfl, trivial⟩, trivial, rfl⟩, ?_⟩
  rintro ⟨k, hk⟩
  refine ⟨fun h3 => ?_, fun h3 => by simp at h3; omega⟩
  refine .inl ⟨_, letters_ok (n := k) (by omega), ?_⟩
  refine .inl ⟨_, contains_ok (l := l) (s := lett k) (by omega), ?_⟩
  refine ⟨fun h4 => ?_, fun h4 => ?_⟩
  · have h4 : lett k ∉ l := fun hm => by rw [memb_yes hm] at h4; cases h4
    have : k = ff l := by
      rcases Nat.lt_or_ge k (ff l) with q | q
      · exact absurd (ff_old l k q) h4
      · omega
    subst this
    exact rfl
  · have h4 : lett k ∈ l := memb_iff.1 (by simpa using h4)
    have : k ≠ ff l := fun e => ff_new l (e ▸ h4)
    refine ⟨⟨k + 1, by omega⟩, (show ff l - (k + 1) < ff l - k by omega), ⟨rfl, rfl, ?_, trivial⟩, trivial, rfl⟩
    exact congrArg (fun n => SV.v (AV.lit (Value.int .i64 n))) (wrap_succ (k := k) (by omega))
end Go.Proofs.YtocglbflmkadeaaDoor
