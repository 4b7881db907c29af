/- Ways up: what the code tells is what the document tells. Plain Lean, no program. -/
import Derived.Test.YtkhnjmbgkakngaaGreatDoorE
import Derived.Test.YtkhnjmbgkakngaaGreatDoorG
set_option linter.unusedSimpArgs false
set_option linter.unusedVariables false
namespace Go.Proofs.YtkhnjmbgkakngaaGreatDoor
open Go Fp
set_option maxRecDepth 10000
set_option linter.unusedVariables false
set_option linter.unusedSimpArgs false

/-! ### the document's -/
def firstI (f : ByteArray → Option (List Int)) : Nat → List ByteArray → Option (List Int)
  | _, [] => none
  | i, x :: r => match f x with
    | some l => some ((i : Int) :: l)
    | none => firstI f (i + 1) r
def pathD (m : List Cl) (to : ByteArray) : Nat → ByteArray → Option (List Int)
  | 0, frm => if exC m frm = true ∧ frm = to then some [] else none
  | n + 1, frm => firstI (pathD m to n) 0 (sups m frm)
def pathsD (m : List Cl) (frm to : ByteArray) (N : Nat) : Option (List Int) := (List.range N).findSome? fun n => pathD m to n frm

section
variable (m : List Cl)
def chl (path : List Int) : Nat → List ByteArray → List Way
  | _, [] => []
  | i, x :: xs => if exC m x = true then (x, path ++ [(i : Int)]) :: chl path (i + 1) xs else chl path (i + 1) xs
def ch (w : Way) : List Way := chl m w.2 0 (sups m w.1)
def lv : Nat → Way → List Way
  | 0, w => [w]
  | n + 1, w => (ch m w).flatMap (lv n)
theorem lv_end (n : Nat) (w : Way) : lv m (n + 1) w = (lv m n w).flatMap (ch m) := by
  induction n generalizing w with
  | zero => simp [lv]
  | succ n ih =>
    rw [lv, lv, List.flatMap_assoc]
    congr 1
    funext x
    exact ih x
theorem chl_ex {path : List Int} {i : Nat} {xs : List ByteArray} {w : Way} (h : w ∈ chl m path i xs) : exC m w.1 = true ∧ w.1 ∈ xs ∧ w.2.length = path.length + 1 := by
  induction xs generalizing i with
  | nil => simp [chl] at h
  | cons x xs ih =>
    rw [chl] at h
    split at h
    · rename_i hx
      rcases List.mem_cons.1 h with rfl | h
      · exact ⟨hx, List.mem_cons_self, by simp⟩
      · have := ih h; exact ⟨this.1, List.mem_cons_of_mem _ this.2.1, this.2.2⟩
    · have := ih h; exact ⟨this.1, List.mem_cons_of_mem _ this.2.1, this.2.2⟩
theorem chl_of {path : List Int} {i : Nat} {xs : List ByteArray} {y : ByteArray} (h : y ∈ xs) (hy : exC m y = true) : ∃ w ∈ chl m path i xs, w.1 = y := by
  induction xs generalizing i with
  | nil => simp at h
  | cons x xs ih =>
    rw [chl]
    rcases List.mem_cons.1 h with rfl | h
    · rw [if_pos hy]; exact ⟨_, List.mem_cons_self, rfl⟩
    · obtain ⟨w, h1, h2⟩ := ih (i := i + 1) h
      split
      · exact ⟨w, List.mem_cons_of_mem _ h1, h2⟩
      · exact ⟨w, h1, h2⟩
theorem sups_none {s : ByteArray} (h : exC m s = false) : sups m s = [] := by
  unfold exC at h; unfold sups
  cases h2 : lookC m s with
  | none => rfl
  | some c => rw [h2] at h; simp at h

abbrev isTo (to : ByteArray) : Way → Bool := fun w => decide (w.1 = to)
theorem pathD_none (to : ByteArray) (n : Nat) {s : ByteArray} (h : exC m s = false) : pathD m to n s = none := by
  cases n with
  | zero => simp [pathD, h]
  | succ n => rw [pathD, sups_none m h, firstI]
theorem lv_find (to : ByteArray) : ∀ (n : Nat) (w : Way), exC m w.1 = true → (lv m n w).find? (isTo to) = (pathD m to n w.1).map fun p => (to, w.2 ++ p)
  | 0, w, h => by
    by_cases ht : w.1 = to
    · subst ht; simp [lv, pathD, h]
    · simp [lv, pathD, ht]
  | n + 1, w, h => by
    rw [lv, pathD, ch]
    have go : ∀ (xs : List ByteArray) (i : Nat), ((chl m w.2 i xs).flatMap (lv m n)).find? (isTo to) = (firstI (pathD m to n) i xs).map fun p => (to, w.2 ++ p) := fun xs => by
      induction xs with
      | nil => intro i; simp [chl, firstI]
      | cons x xs ih =>
        intro i
        rw [chl, firstI]
        by_cases hx : exC m x = true
        · rw [if_pos hx, List.flatMap_cons, List.find?_append, lv_find to n (x, w.2 ++ [(i : Int)]) hx, ih]
          simp only
          cases pathD m to n x with
          | none => simp
          | some l => simp
        · rw [if_neg hx, ih, pathD_none m to n (by simpa using hx)]
    exact go _ 0

/-! ### all ways, one behind the other -/
def full (to : ByteArray) : Nat → List Way → Option Way
  | 0, _ => none
  | _ + 1, [] => none
  | K + 1, w :: Q => match (ch m w).find? (isTo to) with
    | some r => some r
    | none => full to K (Q ++ ch m w)
theorem full_level (to : ByteArray) (K : Nat) : ∀ (Q Z : List Way), full m to (Q.length + K) (Q ++ Z) = match (Q.flatMap (ch m)).find? (isTo to) with
    | some r => some r
    | none => full m to K (Z ++ Q.flatMap (ch m))
  | [], Z => by simp
  | w :: Q, Z => by
    rw [show (w :: Q).length + K = (Q.length + K) + 1 by simp; omega, List.cons_append, full, List.flatMap_cons, List.find?_append]
    cases h : (ch m w).find? (isTo to) with
    | some r => simp
    | none =>
      simp only [Option.none_or]
      rw [List.append_assoc, full_level to K Q (Z ++ ch m w)]
      simp only [List.append_assoc]
theorem full_of (to : ByteArray) (w : Way) : ∀ (n : Nat) {r : Way}, (lv m (n + 1) w).find? (isTo to) = some r → (∀ j, j < n → (lv m (j + 1) w).find? (isTo to) = none) → ∃ K, full m to K [w] = some r := fun n r h hj => by
  have go : ∀ j, j ≤ n → ∃ K0, ∀ K, full m to (K0 + K) [w] = full m to K (lv m j w) := fun j => by
    induction j with
    | zero => exact fun _ => ⟨0, fun K => by simp [lv]⟩
    | succ j ih =>
      intro hjn
      obtain ⟨K0, h0⟩ := ih (by omega)
      refine ⟨K0 + (lv m j w).length, fun K => ?_⟩
      have := full_level m to K (lv m j w) []
      rw [← lv_end, hj j (by omega)] at this
      rw [Nat.add_assoc, h0, ← List.append_nil (lv m j w), List.length_append, List.length_nil, Nat.add_zero, this]
      simp
  obtain ⟨K0, h0⟩ := go n (Nat.le_refl _)
  refine ⟨K0 + ((lv m n w).length + 0), ?_⟩
  have := full_level m to 0 (lv m n w) []
  rw [← lv_end, h] at this
  rw [h0]
  simpa using this

/-! ### those that were not seen -/
def nw : List ByteArray → List Way → List Way
  | _, [] => []
  | sn, w :: r => if memb w.1 sn = true then nw sn r else w :: nw (sn ++ [w.1]) r
theorem visit_eq (to : ByteArray) (path : List Int) : ∀ (xs : List ByteArray) (i : Nat) (q : List Way) (sn : List ByteArray), to ∉ sn →
    match (chl m path i xs).find? (isTo to) with
    | some r => ∃ q' sn', visit m (stepP to) path i xs q sn (false, []) = ((q', sn', (true, r.2)), false)
    | none => visit m (stepP to) path i xs q sn (false, []) = ((q ++ nw sn (chl m path i xs), sn ++ (nw sn (chl m path i xs)).map (·.1), (false, [])), true)
  | [], i, q, sn, h => by simp [chl, visit, nw]
  | x :: xs, i, q, sn, h => by
    rw [chl, visit]
    by_cases hx : exC m x = true
    · rw [if_pos hx]
      by_cases ht : x = to
      · subst ht
        have hm : memb x sn = false := by rw [← Bool.not_eq_true, memb_iff]; exact h
        simp [hx, hm, stepP]
      · rw [List.find?_cons_of_neg (by simp [ht])]
        by_cases hs : memb x sn = true
        · have ih := visit_eq to path xs (i + 1) q sn h
          simp only [hs, hx, Bool.not_true, Bool.or_true, if_true, nw]
          exact ih
        · have ih := visit_eq to path xs (i + 1) (q ++ [(x, path ++ [(i : Int)])]) (sn ++ [x]) (by simp [h]; exact fun e => ht e.symm)
          have hs' : memb x sn = false := by simpa using hs
          simp only [hs', hx, Bool.not_true, Bool.or_self, Bool.false_eq_true, if_false, stepP, ht, Bool.not_false, nw]
          simpa [List.append_assoc] using ih
    · have hx' : exC m x = false := by simpa using hx
      rw [if_neg hx]
      have ih := visit_eq to path xs (i + 1) q sn h
      simp only [hx', Bool.not_false, Bool.true_or, if_true]
      exact ih

/-- Some of all that waits: what was there ahead, or was popped, is left out. -/
inductive R : List ByteArray → List Way → List Way → Prop
  | nil {A} : R A [] []
  | keep {A w Q q} : R (w.1 :: A) Q q → R A (w :: Q) (w :: q)
  | drop {A w Q q} : w.1 ∈ A → R A Q q → R A (w :: Q) q
theorem R_new : ∀ {C : List Way} {A sn : List ByteArray}, (∀ y ∈ sn, y ∈ A) → R A C (nw sn C)
  | [], A, sn, h => .nil
  | w :: C, A, sn, h => by
    rw [nw]
    split
    · rename_i hm
      exact .drop (h _ (memb_iff.1 hm)) (R_new h)
    · refine .keep (R_new fun y hy => ?_)
      rcases List.mem_append.1 hy with hy | hy
      · exact List.mem_cons_of_mem _ (h y hy)
      · simp at hy; subst hy; exact List.mem_cons_self
theorem R_app {A : List ByteArray} {Q q : List Way} (h : R A Q q) : ∀ {C : List Way} {sn : List ByteArray}, (∀ y ∈ sn, y ∈ A ∨ y ∈ q.map (·.1)) → R A (Q ++ C) (q ++ nw sn C) := by
  induction h with
  | nil => intro C sn h; exact R_new fun y hy => (h y hy).resolve_right (by simp)
  | keep h1 ih => intro C sn h; exact .keep (ih fun y hy => by
      rcases h y hy with h | h
      · exact .inl (List.mem_cons_of_mem _ h)
      · rw [List.map_cons] at h
        rcases List.mem_cons.1 h with h | h
        · exact .inl (h ▸ List.mem_cons_self)
        · exact .inr h)
  | drop h0 h1 ih => intro C sn h; exact .drop h0 (ih h)
theorem nw_seen : ∀ {C : List Way} {sn : List ByteArray}, (∀ w ∈ C, w.1 ∈ sn) → nw sn C = []
  | [], _, _ => rfl
  | w :: C, sn, h => by
    rw [nw, if_pos (memb_iff.2 (h w List.mem_cons_self))]
    exact nw_seen fun x hx => h x (List.mem_cons_of_mem _ hx)
theorem nw_all : ∀ {C : List Way} {sn : List ByteArray} {w : Way}, w ∈ C → w.1 ∈ sn ++ (nw sn C).map (·.1)
  | x :: C, sn, w, h => by
    rw [nw]
    split
    · rename_i hm
      rcases List.mem_cons.1 h with rfl | h
      · exact List.mem_append_left _ (memb_iff.1 hm)
      · exact nw_all h
    · rcases List.mem_cons.1 h with rfl | h
      · simp
      · have := nw_all (sn := sn ++ [x.1]) h
        simpa [List.append_assoc] using this
theorem nw_sub : ∀ {C : List Way} {sn : List ByteArray} {w : Way}, w ∈ nw sn C → w ∈ C
  | x :: C, sn, w, h => by
    rw [nw] at h
    split at h
    · exact List.mem_cons_of_mem _ (nw_sub h)
    · rcases List.mem_cons.1 h with rfl | h
      · exact List.mem_cons_self
      · exact List.mem_cons_of_mem _ (nw_sub h)
theorem nw_unseen : ∀ {C : List Way} {sn : List ByteArray}, (∀ w ∈ C, exC m w.1 = true) → unseen m (sn ++ (nw sn C).map (·.1)) + (nw sn C).length ≤ unseen m sn
  | [], sn, h => by simp [nw]
  | w :: C, sn, h => by
    rw [nw]
    split
    · exact nw_unseen fun x hx => h x (List.mem_cons_of_mem _ hx)
    · rename_i hm
      have h1 := nw_unseen (C := C) (sn := sn ++ [w.1]) fun x hx => h x (List.mem_cons_of_mem _ hx)
      have h2 := unseen_lt (m := m) (sn := sn) (h w List.mem_cons_self) (fun hs => hm (memb_iff.2 hs))
      simp only [List.map_cons, List.length_cons]
      rw [show sn ++ w.1 :: List.map (fun x => x.1) (nw (sn ++ [w.1]) C) = sn ++ [w.1] ++ List.map (fun x => x.1) (nw (sn ++ [w.1]) C) by simp]
      omega
theorem find_no {to : ByteArray} {C : List Way} (h : C.find? (isTo to) = none) : ∀ w ∈ C, w.1 ≠ to := fun w hw e => by
  have := List.find?_eq_none.1 h w hw
  simp [e] at this
theorem ch_ex {w x : Way} (h : x ∈ ch m w) : exC m x.1 = true := (chl_ex m h).1

theorem bfs_full (to : ByteArray) : ∀ (K : Nat) (Q q : List Way) (sn P : List ByteArray) (F : Nat) (r : Way), full m to K Q = some r → R P Q q → to ∉ sn → (∀ y ∈ sn, y ∈ P ∨ y ∈ q.map (·.1)) → (∀ z ∈ P, ∀ y ∈ sups m z, exC m y = true → y ∈ sn) → unseen m sn + q.length ≤ F →
    bfs m (stepP to) F q sn (false, []) = (true, r.2)
  | 0, _, _, _, _, _, _, h, _, _, _, _, _ => by simp [full] at h
  | K + 1, [], _, _, _, _, _, h, _, _, _, _, _ => by simp [full] at h
  | K + 1, w :: Q, q, sn, P, F, r, h, hR, ht, h1, h2, hF => by
    rw [full] at h
    cases hR with
    | drop hw hR =>
      have hs : ∀ x ∈ ch m w, x.1 ∈ sn := fun x hx => h2 _ hw _ (chl_ex m hx).2.1 (chl_ex m hx).1
      have hn : (ch m w).find? (isTo to) = none := List.find?_eq_none.2 fun x hx => by
        have := hs x hx
        simp; rintro rfl; exact ht this
      rw [hn] at h
      have := R_app hR h1 (C := ch m w)
      rw [nw_seen hs, List.append_nil] at this
      exact bfs_full to K _ q sn P F r h this ht h1 h2 hF
    | @keep _ _ _ q' hR =>
      cases F with
      | zero => simp at hF
      | succ F =>
        have hv := visit_eq m to w.2 (sups m w.1) 0 q' sn ht
        rw [bfs]
        rw [show chl m w.2 0 (sups m w.1) = ch m w from rfl] at hv
        cases hf : (ch m w).find? (isTo to) with
        | some r' =>
          rw [hf] at h hv
          injection h with h; subst h
          obtain ⟨q1, sn1, hv⟩ := hv
          rw [hv]
        | none =>
          rw [hf] at h hv
          simp only at hv h
          rw [hv]
          have hu := nw_unseen m (C := ch m w) (sn := sn) fun x hx => ch_ex m hx
          have h1' : ∀ y ∈ sn, y ∈ w.1 :: P ∨ y ∈ q'.map (·.1) := fun y hy => by
            rcases h1 y hy with h | h
            · exact .inl (List.mem_cons_of_mem _ h)
            · rw [List.map_cons] at h
              rcases List.mem_cons.1 h with h | h
              · exact .inl (h ▸ List.mem_cons_self)
              · exact .inr h
          refine bfs_full to K _ _ _ (w.1 :: P) F r h (R_app hR h1') ?_ ?_ ?_ (by rw [List.length_append]; simp at hF; omega)
          · intro hto
            rcases List.mem_append.1 hto with hto | hto
            · exact ht hto
            · obtain ⟨x, hx, e⟩ := List.mem_map.1 hto
              exact find_no hf x (nw_sub hx) e
          · intro y hy
            rw [List.map_append]
            rcases List.mem_append.1 hy with hy | hy
            · rcases h1' y hy with h | h
              · exact .inl h
              · exact .inr (List.mem_append_left _ h)
            · exact .inr (List.mem_append_right _ hy)
          · intro z hz y hy hyx
            rcases List.mem_cons.1 hz with rfl | hz
            · obtain ⟨x, hx, rfl⟩ := chl_of m (path := w.2) (i := 0) hy hyx
              exact nw_all hx
            · exact List.mem_append_left _ (h2 z hz y hy hyx)

/-- What the code finds is a way, and no longer than there are classes. -/
theorem bfs_sound (to : ByteArray) (root : Way) : ∀ (F : Nat) (q : List Way) (sn : List ByteArray), to ∉ sn → (∀ w ∈ q, ∃ n, w ∈ lv m n root ∧ n ≤ sn.length) → unseen m sn + sn.length ≤ m.length →
    bfs m (stepP to) F q sn (false, []) = (false, []) ∨ ∃ n r, n ≤ m.length ∧ r ∈ lv m n root ∧ r.1 = to
  | 0, _, _, _, _, _ => .inl (by rw [bfs])
  | F + 1, [], _, _, _, _ => .inl (by rw [bfs])
  | F + 1, w :: q, sn, ht, hq, hu => by
    have hv := visit_eq m to w.2 (sups m w.1) 0 q sn ht
    rw [show chl m w.2 0 (sups m w.1) = ch m w from rfl] at hv
    obtain ⟨n, hw, hn⟩ := hq w List.mem_cons_self
    have hch : ∀ x ∈ ch m w, x ∈ lv m (n + 1) root := fun x hx => by
      rw [lv_end]; exact List.mem_flatMap.2 ⟨w, hw, hx⟩
    cases hf : (ch m w).find? (isTo to) with
    | some r =>
      have h1 := List.mem_of_find?_eq_some hf
      have h2 : r.1 = to := by simpa using List.find?_some hf
      refine .inr ⟨n + 1, r, ?_, hch r h1, h2⟩
      have := unseen_lt (m := m) (sn := sn) (s := to) (h2 ▸ ch_ex m h1) ht
      omega
    | none =>
      rw [hf] at hv
      simp only at hv
      rw [bfs, hv]
      have hu' := nw_unseen m (C := ch m w) (sn := sn) fun x hx => ch_ex m hx
      refine bfs_sound to root F _ _ ?_ (fun x hx => ?_) (by rw [List.length_append, List.length_map]; omega)
      · intro hto
        rcases List.mem_append.1 hto with hto | hto
        · exact ht hto
        · obtain ⟨x, hx, e⟩ := List.mem_map.1 hto
          exact find_no hf x (nw_sub hx) e
      · rcases List.mem_append.1 hx with hx | hx
        · obtain ⟨k, h1, h2⟩ := hq x (List.mem_cons_of_mem _ hx)
          exact ⟨k, h1, by rw [List.length_append]; omega⟩
        · refine ⟨n + 1, hch x (nw_sub hx), ?_⟩
          have : 0 < (nw sn (ch m w)).length := List.length_pos_of_mem hx
          rw [List.length_append, List.length_map]; omega
end
theorem findSome_range {β : Type} (f : Nat → Option β) : ∀ (N : Nat), (List.range N).findSome? f = none ∧ (∀ j, j < N → f j = none) ∨ ∃ n b, n < N ∧ f n = some b ∧ (∀ j, j < n → f j = none) ∧ (List.range N).findSome? f = some b
  | 0 => .inl ⟨rfl, fun j h => by omega⟩
  | N + 1 => by
    rw [List.range_succ, List.findSome?_append]
    rcases findSome_range f N with ⟨h1, h2⟩ | ⟨n, b, h1, h2, h3, h4⟩
    · rw [h1]
      cases h : f N with
      | none => exact .inl ⟨by simp [h], fun j hj => by
          rcases Nat.lt_or_eq_of_le (Nat.le_of_lt_succ hj) with h5 | rfl
          · exact h2 j h5
          · exact h⟩
      | some b => exact .inr ⟨N, b, by omega, h, h2, by simp [h]⟩
    · exact .inr ⟨n, b, by omega, h2, h3, by rw [h4]; rfl⟩
theorem pathB_eq (m : List Cl) (frm to : ByteArray) : pathB m frm to = ((pathsD m frm to (m.length + 1)).isSome, (pathsD m frm to (m.length + 1)).getD []) := by
  unfold pathB
  rcases findSome_range (fun n => pathD m to n frm) (m.length + 1) with ⟨h1, h2⟩ | ⟨n, b, h1, h2, h3, h4⟩
  · rw [pathsD, h1]
    have h0 := h2 0 (by omega)
    by_cases he : exC m frm = true
    · by_cases hf : frm = to
      · simp [pathD, he, hf] at h0; subst hf; rw [he] at h0; cases h0
      · rw [if_neg (by simp [he, hf])]
        rcases bfs_sound m to (frm, []) (m.length + 1) [(frm, [])] [] (by simp) (fun w hw => ⟨0, by simpa [lv] using hw, by simp⟩) (by simp [unseen]; exact List.length_filter_le _ _) with h | ⟨n, r, h3, h4, h5⟩
        · exact h
        · exfalso
          have := lv_find m to n (frm, []) he
          rw [h2 n (by omega)] at this
          exact find_no this r h4 h5
    · have he : exC m frm = false := by simpa using he
      rw [if_pos (.inr he), he]; rfl
  · rw [pathsD, h4]
    have he : exC m frm = true := by
      cases he : exC m frm with
      | true => rfl
      | false => have := pathD_none m to n he; rw [this] at h2; cases h2
    by_cases hf : frm = to
    · rw [if_pos (.inl hf), he]
      have h0 : pathD m to 0 frm = some [] := by simp [pathD, he, hf]; subst hf; exact he
      cases n with
      | zero => rw [h0] at h2; injection h2 with h2; subst h2; rfl
      | succ n => have := h3 0 (by omega); rw [h0] at this; cases this
    · rw [if_neg (by simp [he, hf])]
      cases n with
      | zero => simp [pathD, hf] at h2
      | succ n =>
        have hl := fun j => lv_find m to j (frm, []) he
        obtain ⟨K, hK⟩ := full_of m to (frm, []) n (r := (to, b)) (by rw [hl, h2]; rfl) (fun j hj => by rw [hl, h3 (j + 1) (by omega)]; rfl)
        rw [bfs_full m to K [(frm, [])] [(frm, [])] [] [] (m.length + 1) (to, b) hK (.keep .nil) (by simp) (by simp) (by simp) (by simp [unseen]; exact List.length_filter_le _ _)]
        rfl
end Go.Proofs.YtkhnjmbgkakngaaGreatDoor

namespace Go.Proofs.YtkhnjmbgkakngaaGreatDoor
open Go Fp
set_option maxRecDepth 10000
set_option maxHeartbeats 4000000
set_option linter.unusedVariables false
set_option linter.unusedSimpArgs false

theorem class_ok (cs : List Cl) (is : List In) (hc : cs.length < 100000) (s : ByteArray) : ACall Tryz.prog n_fugueref11_Class [eProg cs is, .lit (.string s)] (.tup [eCl ((lookC cs s).getD zCl), .sb (lookC cs s).isSome]) := by
  generalize hL : lookC cs s = L
  refine acall_of_wcx ttok mixed Tryz.func81 rfl (by rfl) (Nat.le_of_ble_eq_true rfl) (by kernel_rfl) ?_
  refine ⟨{k : Nat // k ≤ cs.length ∧ L = lookC (cs.drop k) s}, fun k => { vs := [(1, .v (.lit (.string s))), (2, .box 0 (eProg cs is)), (4, .box 0 (eCl zCl)), (6, sv (k.1 : Nat))] },
    fun k => cs.length - k.1, ⟨0, Nat.zero_le _, hL.symm⟩, ⟨⟨rfl, rfl, rfl, rfl, trivial⟩, trivial, rfl⟩, ?_⟩
  rintro ⟨k, hk, hinv⟩
  refine ⟨fun h => ?_, fun h => ?_⟩
  · have h : k < cs.length := by have h : (k : Int) < ((eCls cs).length : Nat) := of_decide_eq_true h; simp [eCls] at h; omega
    refine ⟨eCl cs[k], by omega, getCl h, rfl, ?_⟩
    rw [List.drop_eq_getElem_cons h, lookC] at hinv
    by_cases hs : cs[k].nm = s
    · rw [if_pos hs] at hinv
      refine ⟨fun hbs => ?_, fun hbs => ?_⟩ <;> first | (exfalso; revert hbs; (simp [hs]); done) | skip
      refine ⟨eCl cs[k], by omega, getCl h, rfl, ?_⟩
      subst hinv
      exact rfl
    · rw [if_neg hs] at hinv
      refine ⟨fun hbs => ?_, fun hbs => ?_⟩ <;> first | (exfalso; revert hbs; (simp [hs]); done) | skip
      exact ⟨⟨k + 1, h, hinv⟩, (show cs.length - (k + 1) < cs.length - k by omega), ⟨rfl, rfl, rfl, svc (wrap_succ (k := k) (by omega)), trivial⟩, trivial, rfl⟩
  · have h : k = cs.length := by have h : ¬ (k : Int) < ((eCls cs).length : Nat) := of_decide_eq_false h; simp [eCls] at h; omega
    subst h
    rw [List.drop_length] at hinv
    subst hinv
    exact rfl

theorem instI_cons (x : In) (r : List In) (cls con : ByteArray) : instI (x :: r) cls con = if instP cls con x = true then some 0 else (instI r cls con).map (· + 1) := by
  simp [instI, List.findIdx?_cons]
theorem rinst_ok (cs : List Cl) (is : List In) (hi : is.length < 100000) (cls con : ByteArray) : ACall Tryz.prog n_fugueref11_Inst [eProg cs is, .lit (.string cls), .lit (.string con)] (.tup [.lit (.int .i64 (((instI is cls con).getD 0 : Nat) : Int)), .sb (instI is cls con).isSome]) := by
  generalize hL : instI is cls con = L
  refine acall_of_wcx ttok mixed Tryz.func25 rfl (by rfl) (Nat.le_of_ble_eq_true rfl) (by kernel_rfl) ?_
  refine ⟨{k : Nat // k ≤ is.length ∧ L = (instI (is.drop k) cls con).map (· + k)}, fun k => { vs := [(1, .v (.lit (.string cls))), (2, .v (.lit (.string con))), (3, .box 0 (eProg cs is)), (8, sv (k.1 : Nat))] },
    fun k => is.length - k.1, ⟨0, Nat.zero_le _, by simp [hL]⟩, ⟨⟨rfl, rfl, rfl, rfl, trivial⟩, trivial, rfl⟩, ?_⟩
  rintro ⟨k, hk, hinv⟩
  refine ⟨fun h => ?_, fun h => ?_⟩
  · have h : k < is.length := by have h : (k : Int) < ((eIns is).length : Nat) := of_decide_eq_true h; simp [eIns] at h; omega
    rw [List.drop_eq_getElem_cons h, instI_cons] at hinv
    have hr : is.length - (k + 1) < is.length - k := by omega
    have hnext : instP cls con is[k] = false → L = (instI (is.drop (k + 1)) cls con).map (· + (k + 1)) := fun h => by
      rw [hinv, h]
      cases instI (is.drop (k + 1)) cls con <;> simp; omega
    refine ⟨eIn is[k], by omega, getN h, rfl, ?_⟩
    by_cases h1 : is[k].cls = cls
    · refine ⟨fun hbs => ?_, fun hbs => ?_⟩ <;> first | (exfalso; revert hbs; (simp [h1]); done) | skip
      refine ⟨eIn is[k], by omega, getN h, rfl, ?_⟩
      by_cases h2 : is[k].con = con
      · refine ⟨fun hbs => ?_, fun hbs => ?_⟩ <;> first | (exfalso; revert hbs; (simp [h2]); done) | skip
        have : L = some k := by rw [hinv]; simp [instP, h1, h2]
        subst this
        exact rfl
      · refine ⟨fun hbs => ?_, fun hbs => ?_⟩ <;> first | (exfalso; revert hbs; (simp [h2]); done) | skip
        exact ⟨⟨k + 1, h, hnext (by simp [instP, h2])⟩, hr, ⟨rfl, rfl, rfl, svc (wrap_succ (k := k) (by omega)), trivial⟩, trivial, rfl⟩
    · refine ⟨fun hbs => ?_, fun hbs => ?_⟩ <;> first | (exfalso; revert hbs; (simp [h1]); done) | skip
      exact ⟨⟨k + 1, h, hnext (by simp [instP, h1])⟩, hr, ⟨rfl, rfl, rfl, svc (wrap_succ (k := k) (by omega)), trivial⟩, trivial, rfl⟩
  · have h : k = is.length := by have h : ¬ (k : Int) < ((eIns is).length : Nat) := of_decide_eq_false h; simp [eIns] at h; omega
    subst h
    rw [List.drop_length] at hinv
    subst hinv
    exact rfl

noncomputable def pthR (o : Option (List Int)) : AV := .tup [.sl (eIs (o.getD [])), .sb o.isSome]
theorem firstI_len {f : ByteArray → Option (List Int)} {n : Nat} (hf : ∀ y l, f y = some l → l.length = n) : ∀ {xs : List ByteArray} {i : Nat} {l : List Int}, firstI f i xs = some l → l.length = n + 1
  | [], _, _, h => by simp [firstI] at h
  | x :: xs, i, l, h => by
    rw [firstI] at h
    split at h
    · rename_i l' h'
      injection h with h; subst h; simp [hf x l' h']
    · exact firstI_len hf h
theorem pathD_len (cs : List Cl) (to : ByteArray) : ∀ (n : Nat) (frm : ByteArray) (l : List Int), pathD cs to n frm = some l → l.length = n
  | 0, frm, l, h => by rw [pathD] at h; split at h <;> simp at h; subst h; rfl
  | n + 1, frm, l, h => by rw [pathD] at h; exact firstI_len (pathD_len cs to n) h
theorem lookC_lt {cs : List Cl} (hsup : ∀ c ∈ cs, c.sup.length < 1000) (s : ByteArray) : ((lookC cs s).getD zCl).sup.length < 1000 := by
  cases h : lookC cs s with
  | none => simp [zCl]
  | some c => exact hsup c (lookC_mem h).1
theorem sups_get (cs : List Cl) (s : ByteArray) : sups cs s = ((lookC cs s).getD zCl).sup := by
  unfold sups; cases lookC cs s <;> rfl
theorem wrap_pred {n : Nat} (h : n + 1 < 9223372036854775808) : IntKind.i64.wrap (((n + 1 : Nat) : Int) - 1) = (n : Nat) := by
  rw [show ((n + 1 : Nat) : Int) - 1 = (n : Nat) by omega, wrap_nat (by omega)]
theorem rpath_ok (cs : List Cl) (is : List In) (hc : cs.length < 1000) (hsup : ∀ c ∈ cs, c.sup.length < 1000) (to : ByteArray) : ∀ (n : Nat), n < 1000000 → ∀ (frm : ByteArray), ACall Tryz.prog n_fugueref11_path [eProg cs is, .lit (.string frm), .lit (.string to), .lit (.int .i64 (n : Nat))] (pthR (pathD cs to n frm)) := by
  intro n
  induction n with
  | zero =>
    intro _ frm
    have hC := class_ok cs is (by omega) frm
    refine acall_of_wcx ttok mixed Tryz.func71 rfl (by rfl) (Nat.le_of_ble_eq_true rfl) (by kernel_rfl) ?_
    refine .inl ⟨_, hC, ?_⟩
    rw [pathD]
    unfold exC
    cases h1 : lookC cs frm with
    | none =>
      refine ⟨fun hbs => ?_, fun hbs => ?_⟩ <;> first | (exfalso; revert hbs; (simp); done) | skip
      refine ⟨fun hbs => ?_, fun hbs => ?_⟩ <;> first | (exfalso; revert hbs; (simp); done) | skip
      exact rfl
    | some c =>
      refine ⟨fun hbs => ?_, fun hbs => ?_⟩ <;> first | (exfalso; revert hbs; (simp); done) | skip
      refine ⟨fun hbs => ?_, fun hbs => ?_⟩ <;> first | (exfalso; revert hbs; (simp); done) | skip
      have e : pthR (if (some c).isSome = true ∧ frm = to then some [] else none) = .tup [.sl [], .sb (decide (frm = to))] := by
        by_cases h2 : frm = to <;> simp [h2, pthR, eIs]
      rw [e]
      exact rfl
  | succ n ih =>
    intro hn frm
    have hC := class_ok cs is (by omega) frm
    have hS := lookC_lt hsup frm
    rw [pathD, sups_get]
    generalize hR : firstI (pathD cs to n) 0 ((lookC cs frm).getD zCl).sup = R
    revert hC hS hR
    generalize (lookC cs frm).getD zCl = c
    generalize (lookC cs frm).isSome = b
    intro hC hS hR
    refine acall_of_wcx ttok mixed Tryz.func71 rfl (by rfl) (Nat.le_of_ble_eq_true rfl) (by kernel_rfl) ?_
    refine .inl ⟨_, hC, ?_⟩
    refine ⟨fun hbs => ?_, fun hbs => ?_⟩ <;> first | (exfalso; revert hbs; (intro h; have h := of_decide_eq_true h; omega); done) | skip
    refine ⟨{k : Nat // k ≤ c.sup.length ∧ R = firstI (pathD cs to n) k (c.sup.drop k)}, fun k => { vs := [(1, .v (.lit (.string frm))), (2, .v (.lit (.string to))), (3, sv ((n + 1 : Nat) : Int)), (4, .box 0 (eProg cs is)), (10, .box 0 (eCl c)), (12, sv (k.1 : Nat))] },
      fun k => c.sup.length - k.1, ⟨0, Nat.zero_le _, hR.symm⟩, ⟨⟨rfl, rfl, rfl, rfl, rfl, rfl, trivial⟩, trivial, rfl⟩, ?_⟩
    rintro ⟨k, hk, hinv⟩
    refine ⟨fun h => ?_, fun h => ?_⟩
    · have h : k < c.sup.length := by have h : (k : Int) < ((eSs c.sup).length : Nat) := of_decide_eq_true h; simp [eSs] at h; omega
      rw [List.drop_eq_getElem_cons h, firstI] at hinv
      refine ⟨_, by omega, getS h, rfl, ?_⟩
      have hI := ih (by omega) c.sup[k]
      rw [← wrap_pred (n := n) (by omega)] at hI
      refine .inl ⟨_, hI, ?_⟩
      refine ⟨by kernel_rfl, ?_⟩
      cases hp : pathD cs to n c.sup[k] with
      | none =>
        rw [hp] at hinv
        refine ⟨fun hbs => ?_, fun hbs => ?_⟩ <;> first | (exfalso; revert hbs; (simp); done) | skip
        exact ⟨⟨k + 1, h, hinv⟩, (show c.sup.length - (k + 1) < c.sup.length - k by omega), ⟨rfl, rfl, rfl, rfl, rfl, svc (wrap_succ (k := k) (by omega)), trivial⟩, trivial, rfl⟩
      | some l =>
        rw [hp] at hinv
        refine ⟨fun hbs => ?_, fun hbs => ?_⟩ <;> first | (exfalso; revert hbs; (simp); done) | skip
        have hl := pathD_len cs to n _ l hp
        subst hinv
        refine ⟨by show 1 + (eIs l).length ≤ 4294967296; simp [eIs, hl]; omega, fun a ha => by simp at ha; subst ha; rfl, fun a ha => by simp [eIs] at ha; obtain ⟨y, _, rfl⟩ := ha; rfl, ?_⟩
        exact rfl
    · have h : k = c.sup.length := by have h : ¬ (k : Int) < ((eSs c.sup).length : Nat) := of_decide_eq_false h; simp [eSs] at h; omega
      subst h
      rw [List.drop_length] at hinv
      subst hinv
      exact rfl
end Go.Proofs.YtkhnjmbgkakngaaGreatDoor

namespace Go.Proofs.YtkhnjmbgkakngaaGreatDoor
open Go Fp
set_option maxRecDepth 10000
set_option maxHeartbeats 4000000
set_option linter.unusedVariables false
set_option linter.unusedSimpArgs false

/-! ### classes the other way round -/
theorem lookC_app (a b : List Cl) (s : ByteArray) : lookC (a ++ b) s = (lookC a s).or (lookC b s) := by
  induction a with
  | nil => rfl
  | cons c r ih =>
    rw [List.cons_append, lookC, lookC]
    split
    · rfl
    · exact ih
theorem lookC_none {cs : List Cl} {s : ByteArray} (h : ∀ c ∈ cs, c.nm ≠ s) : lookC cs s = none := by
  induction cs with
  | nil => rfl
  | cons c r ih => rw [lookC, if_neg (h c List.mem_cons_self)]; exact ih fun x hx => h x (List.mem_cons_of_mem _ hx)
theorem lookC_rev {cs : List Cl} (hn : (cs.map Cl.nm).Nodup) (s : ByteArray) : lookC cs.reverse s = lookC cs s := by
  induction cs with
  | nil => rfl
  | cons c r ih =>
    rw [List.map_cons, List.nodup_cons] at hn
    rw [List.reverse_cons, lookC_app, ih hn.2, lookC, lookC, lookC]
    by_cases hc : c.nm = s
    · rw [if_pos hc, if_pos hc, lookC_none fun x hx e => hn.1 (List.mem_map.2 ⟨x, hx, by rw [e, hc]⟩)]; rfl
    · rw [if_neg hc, if_neg hc]; cases lookC r s <;> rfl
theorem sups_rev {cs : List Cl} (hn : (cs.map Cl.nm).Nodup) (s : ByteArray) : sups cs.reverse s = sups cs s := by unfold sups; rw [lookC_rev hn]
theorem exC_rev {cs : List Cl} (hn : (cs.map Cl.nm).Nodup) (s : ByteArray) : exC cs.reverse s = exC cs s := by unfold exC; rw [lookC_rev hn]
theorem pathD_rev {cs : List Cl} (hn : (cs.map Cl.nm).Nodup) (to : ByteArray) : ∀ n, pathD cs.reverse to n = pathD cs to n
  | 0 => by funext s; rw [pathD, pathD, exC_rev hn]
  | n + 1 => by funext s; rw [pathD, pathD, sups_rev hn, pathD_rev hn to n]
theorem pathR_eq {cs : List Cl} (hn : (cs.map Cl.nm).Nodup) (frm to : ByteArray) : pthR (pathsD cs frm to (cs.length + 1)) = .tup [.sl (eIs (pathB cs.reverse frm to).2), .sb (pathB cs.reverse frm to).1] := by
  rw [pathB_eq, List.length_reverse, pthR]
  unfold pathsD
  simp only [pathD_rev hn]
theorem pathsD_none (m : List Cl) (frm to : ByteArray) (N k : Nat) (h : ∀ j, j < k → pathD m to j frm = none) (hk : k ≤ N) : (List.range N).findSome? (fun n => pathD m to n frm) = ((List.range' k (N - k)).findSome? fun n => pathD m to n frm) := by
  rw [List.range_eq_range', show N = k + (N - k) by omega, ← List.range'_append_1, List.findSome?_append]
  rw [List.findSome?_eq_none_iff.2 fun j hj => h j (by simp at hj; omega)]
  simp

theorem rPath_ok (cs : List Cl) (is : List In) (hn : (cs.map Cl.nm).Nodup) (hc : cs.length < 1000) (hsup : ∀ c ∈ cs, c.sup.length < 1000) (frm to : ByteArray) : ACall Tryz.prog n_fugueref11_Path [eProg cs is, .lit (.string frm), .lit (.string to)] (.tup [.sl (eIs (pathB cs.reverse frm to).2), .sb (pathB cs.reverse frm to).1]) := by
  rw [← pathR_eq hn]
  unfold pathsD
  generalize hR : (List.range (cs.length + 1)).findSome? (fun n => pathD cs to n frm) = R
  refine acall_of_wcx ttok mixed Tryz.func37 rfl (by rfl) (Nat.le_of_ble_eq_true rfl) (by kernel_rfl) ?_
  refine ⟨{k : Nat // k ≤ cs.length + 1 ∧ R = (List.range' k (cs.length + 1 - k)).findSome? fun n => pathD cs to n frm}, fun k => { vs := [(1, .v (.lit (.string frm))), (2, .v (.lit (.string to))), (3, .box 0 (eProg cs is)), (8, sv (k.1 : Nat))] },
    fun k => cs.length + 1 - k.1, ⟨0, Nat.zero_le _, by rw [← hR, List.range_eq_range']; rfl⟩, ⟨⟨rfl, rfl, rfl, rfl, trivial⟩, trivial, rfl⟩, ?_⟩
  rintro ⟨k, hk, hinv⟩
  refine ⟨fun h => ?_, fun h => ?_⟩
  · have h : k < cs.length + 1 := by have h : (k : Int) ≤ ((eCls cs).length : Nat) := of_decide_eq_true h; simp [eCls] at h; omega
    rw [show cs.length + 1 - k = (cs.length - k) + 1 by omega, List.range'_succ, List.findSome?_cons] at hinv
    refine .inl ⟨_, rpath_ok cs is hc hsup to k (by omega) frm, ?_⟩
    cases hp : pathD cs to k frm with
    | none =>
      rw [hp] at hinv
      refine ⟨fun hbs => ?_, fun hbs => ?_⟩ <;> first | (exfalso; revert hbs; (simp); done) | skip
      exact ⟨⟨k + 1, h, by rw [hinv, show cs.length + 1 - (k + 1) = cs.length - k by omega]⟩, (show cs.length + 1 - (k + 1) < cs.length + 1 - k by omega), ⟨rfl, rfl, rfl, svc (wrap_succ (k := k) (by omega)), trivial⟩, trivial, rfl⟩
    | some l =>
      rw [hp] at hinv
      subst hinv
      refine ⟨fun hbs => ?_, fun hbs => ?_⟩ <;> first | (exfalso; revert hbs; (simp); done) | skip
      exact rfl
  · have h : k = cs.length + 1 := by have h : ¬ (k : Int) ≤ ((eCls cs).length : Nat) := of_decide_eq_false h; simp [eCls] at h; omega
    subst h
    rw [Nat.sub_self] at hinv
    subst hinv
    exact rfl

/-! ### what it needs -/
noncomputable def ndR : Option (Nat × List PR) → AV
  | some (n, l) => .tup [.lit (.int .i64 (n : Nat)), .sl (ePrs l), .sb true]
  | none => .tup [.lit (.int .i64 0), .sl [], .sb false]
theorem rneeds_ok (cs : List Cl) (is : List In) (hi : is.length < 20000) (hy : ∀ y ∈ is, InOk y) (x : PR) (hx : x.ty.sz < 1000000) : ACall Tryz.prog n_fugueref12_needs [eProg cs is, ePr x] (ndR (instE is x)) := by
  generalize hR : ndR (instE is x) = R
  refine acall_of_wcx ttok mixed Tryz.func39 rfl (by rfl) (Nat.le_of_ble_eq_true rfl) (by kernel_rfl) ?_
  refine .inl ⟨_, rspine_ok x.ty hx, ?_⟩
  by_cases hf : (spHd x.ty).form = 3
  · refine ⟨fun hbs => ?_, fun hbs => ?_⟩ <;> first | (exfalso; revert hbs; (simp [hf]); done) | skip
    refine .inl ⟨_, rinst_ok cs is (by omega) x.cls (spHd x.ty).nam, ?_⟩
    cases hI : instI is x.cls (spHd x.ty).nam with
    | none =>
      have e : R = ndR none := by rw [← hR]; unfold instE; rw [if_pos hf, hI]
      subst e
      refine ⟨fun hbs => ?_, fun hbs => ?_⟩ <;> first | (exfalso; revert hbs; (simp); done) | skip
      exact rfl
    | some n =>
      obtain ⟨hn, hn1, hn2⟩ := instI_lt hI
      refine ⟨fun hbs => ?_, fun hbs => ?_⟩ <;> first | (exfalso; revert hbs; (simp); done) | skip
      refine ⟨eIn is[n], by omega, getN hn, rfl, ?_⟩
      have hyn := hy _ (List.getElem_mem hn)
      by_cases hl : (args x.ty).length = is[n].vars.length
      · refine ⟨fun hbs => ?_, fun hbs => ?_⟩ <;> first | (exfalso; revert hbs; (simp [hl, eSs, eTys]); done) | skip
        have e : R = ndR (some (n, is[n].prs.map (putP (is[n].vars.zip (args x.ty))))) := by
          rw [← hR]; unfold instE; rw [if_pos hf, hI]; simp only [List.getElem?_eq_getElem hn]; unfold needsE; rw [if_pos ⟨hf, hn2.symm, hl⟩]; rfl
        subst e
        have e1 : eSs is[n].vars = eN (is[n].vars.zip (args x.ty)) := by unfold eN; rw [zip_fst hl]
        have e2 : eTys (args x.ty) = eB (is[n].vars.zip (args x.ty)) := by unfold eB; rw [zip_snd hl]
        have hzl : (is[n].vars.zip (args x.ty)).length < 1000000 := by rw [List.length_zip]; have := hyn.vars; omega
        have hfew := hyn.few
        refine ⟨{k : Nat // k ≤ is[n].prs.length}, fun k => { vs := [(2, .box 0 (eProg cs is)), (3, .box 0 (ePr x)), (8, .v (.sl (eTys (args x.ty)))), (9, sv (n : Nat)), (11, .v (.sl (ePrs ((is[n].prs.take k.1).map (putP (is[n].vars.zip (args x.ty))))))), (12, sv (k.1 : Nat))], ow := [(11, 0, 6)] },
          fun k => is[n].prs.length - k.1, ⟨0, Nat.zero_le _⟩, ⟨⟨rfl, rfl, rfl, rfl, rfl, rfl, trivial⟩, ⟨trivial, trivial⟩, rfl⟩, ?_⟩
        rintro ⟨k, hk⟩
        refine ⟨eIn is[n], by omega, getN hn, rfl, ?_⟩
        refine ⟨fun h => ?_, fun h => ?_⟩
        · have h : k < is[n].prs.length := by have h : (k : Int) < ((ePrs is[n].prs).length : Nat) := of_decide_eq_true h; simp [ePrs] at h; omega
          refine ⟨eIn is[n], by omega, getN hn, rfl, ?_⟩
          refine ⟨ePr is[n].prs[k], by omega, getPr h, rfl, ?_⟩
          have hput := rsubstN_ok (is[n].vars.zip (args x.ty)) hzl is[n].prs[k].ty (hyn.plain _ (List.getElem_mem h))
          unfold rsubstSays at hput
          rw [← e1, ← e2] at hput
          refine ⟨eIn is[n], by omega, getN hn, rfl, ?_⟩
          refine .inl ⟨_, hput, ?_⟩
          refine ⟨by simp [ePrs]; omega, uniPr _, uni1 rfl, ?_⟩
          refine ⟨by kernel_rfl, ?_⟩
          refine ⟨⟨k + 1, h⟩, (show is[n].prs.length - (k + 1) < is[n].prs.length - k by omega), ⟨rfl, rfl, rfl, rfl, by show _ = SV.v (.sl (ePrs ((is[n].prs.take (k + 1)).map _))); rw [← takePr _ h]; rfl, svc (wrap_succ (k := k) (by omega)), trivial⟩, ⟨rfl, trivial⟩, rfl⟩
        · have h : k = is[n].prs.length := by have h : ¬ (k : Int) < ((ePrs is[n].prs).length : Nat) := of_decide_eq_false h; simp [ePrs] at h; omega
          subst h
          show AV.tup [_, .sl (ePrs ((is[n].prs.take is[n].prs.length).map _)), _] = _
          rw [List.take_length]
          rfl
      · have e : R = ndR none := by
          rw [← hR]; unfold instE; rw [if_pos hf, hI]; simp only [List.getElem?_eq_getElem hn]; unfold needsE; rw [if_neg (fun h => hl h.2.2)]; rfl
        subst e
        refine ⟨fun hbs => ?_, fun hbs => ?_⟩ <;> first | (exfalso; revert hbs; (simp [eSs, eTys]; omega); done) | skip
        exact rfl
  · have e : R = ndR none := by rw [← hR]; unfold instE; rw [if_neg hf]
    subst e
    refine ⟨fun hbs => ?_, fun hbs => ?_⟩ <;> first | (exfalso; revert hbs; (simp [hf]); done) | skip
    exact rfl
end Go.Proofs.YtkhnjmbgkakngaaGreatDoor
