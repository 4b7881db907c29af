/- What is above a class, by the code: the closure that calls itself. No condition but that there is little. -/
import Derived.Test.YtkhnjmbgkakngaaDoorN
set_option linter.unusedSimpArgs false
set_option linter.unusedVariables false
namespace Go.Proofs.YtkhnjmbgkakngaaDoor
open Go Fp
set_option maxRecDepth 10000
set_option maxHeartbeats 8000000
set_option linter.unusedVariables false
set_option linter.unusedSimpArgs false

/-- What is known of blocks is told in other words. -/
theorem preH {P : Program} {fv : Value} {hin hin' : List (Nat × HO)} {args : List AV} {os : List Nat} {post : AV → Nat → List (Nat × HO) → Prop} (hk : keys hin' = keys hin) (hh : ∀ F w, HeapIn F w hin → HeapIn F w hin') (hc : CallsG P fv hin' args os post) : CallsG P fv hin args os post := by
  obtain ⟨f, first, cap, he, hen, hcalls⟩ := hc
  refine ⟨f, first, cap, he, hen, fun F w vs h1 h2 h3 h4 => ?_⟩
  have := hcalls F w vs h1 (hh F w h2) h3 (by rw [hk]; exact h4)
  rw [hk] at this
  exact this
theorem unseen_mono {m : List Cl} (s : ByteArray) (l : List ByteArray) : unseen m (l ++ [s]) ≤ unseen m l := by
  by_cases hs : s ∈ l
  · refine Nat.le_of_eq ?_
    unfold unseen
    congr 2
    funext c
    rw [Bool.eq_iff_iff, Bool.not_eq_true', Bool.not_eq_true', ← Bool.not_eq_true, ← Bool.not_eq_true, memb_iff, memb_iff, List.mem_append, List.mem_singleton]
    exact not_congr ⟨fun h => h.elim id (fun e => e ▸ hs), .inl⟩
  · unfold unseen
    refine List.Sublist.length_le ?_
    rw [show (m.filter fun c => !memb c.nm (l ++ [s])) = (m.filter fun c => !memb c.nm l).filter (fun c => decide (c.nm ≠ s)) by
      rw [List.filter_filter]; congr 1; funext c
      rw [Bool.eq_iff_iff, Bool.not_eq_true', ← Bool.not_eq_true, memb_iff, Bool.and_eq_true, Bool.not_eq_true', ← Bool.not_eq_true, memb_iff, decide_eq_true_eq, List.mem_append, List.mem_singleton, not_or]
      exact ⟨fun h => ⟨h.2, h.1⟩, fun h => ⟨h.2, h.1⟩⟩]
    exact List.filter_sublist
theorem abv_mono (m : List Cl) : ∀ (n : Nat) (s : ByteArray) (l : List ByteArray), unseen m (abv m n s l) ≤ unseen m l ∧ ∃ r, abv m n s l = l ++ r
  | 0, s, l => ⟨Nat.le_refl _, [], by simp [abv]⟩
  | n + 1, s, l => by
    rw [abv]
    split
    · exact ⟨Nat.le_refl _, [], by simp⟩
    · have fold : ∀ (xs : List ByteArray) (t : List ByteArray), unseen m (xs.foldl (fun t x => abv m n x t) t) ≤ unseen m t ∧ ∃ r, xs.foldl (fun t x => abv m n x t) t = t ++ r := fun xs => by
        induction xs with
        | nil => intro t; exact ⟨Nat.le_refl _, [], by simp⟩
        | cons x xs ih =>
          intro t
          obtain ⟨h1, r, h2⟩ := abv_mono m n x t
          obtain ⟨h3, r', h4⟩ := ih (abv m n x t)
          exact ⟨Nat.le_trans h3 h1, r ++ r', by rw [List.foldl_cons, h4, h2, List.append_assoc]⟩
      obtain ⟨h1, r, h2⟩ := fold (sups m s) (l ++ [s])
      exact ⟨Nat.le_trans h1 (unseen_mono s l), [s] ++ r, by rw [h2, List.append_assoc]⟩

abbrev fvA (b2 b5 b6 : Nat) : Value := .func (.func n_classes_Env_Above_1) #[] #[ptrV b2, ptrV b5, ptrV b6]
abbrev ptrA (b : Nat) : AV := .lit (ptrV b)
abbrev LSt := Nat × Nat × List AV
def aOk (l : List ByteArray) (s : LSt) : Prop := l.length ≤ s.2.1 ∧ s.2.2.length + l.length = s.2.1
def aH (b2 b5 b6 : Nat) (env : AV) (l : List ByteArray) (s : LSt) : List (Nat × HO) := [(b2, HO.cells [env]), (b5, HO.cells [.lit (.slice (some ⟨s.1, 0, none⟩) l.length s.2.1)]), (b6, HO.cells [.lit (fvA b2 b5 b6)]), (s.1, HO.cells (eSs l ++ s.2.2))]
theorem atom_sb {b : Bool} : ∀ F w v, Rep F w v (.sb b) → ∀ F' w', Rep F' w' v (.sb b) := fun F w v h F' w' => by cases h; exact .sb b
theorem containsH (l : List ByteArray) (s : LSt) (hs : aOk l s) (hl : l.length < 1000000) (x : ByteArray) : CallsG Tryd.prog (fnv n_slices_Contains_stringstring) [(s.1, HO.cells (eSs l ++ s.2.2))] [.lit (.slice (some ⟨s.1, 0, none⟩) l.length s.2.1), .lit (.string x)] [] fun r o h => r = .sb (memb x l) ∧ o = 0 ∧ h = [(s.1, HO.cells (eSs l ++ s.2.2))] := by
  refine CallsG.lend (contains_ok (l := l) (s := x) (by omega)) rfl (fun i a a' ha ha' => ?_) atom_sb
  match i with
  | 0 =>
    simp at ha ha'; subst ha; subst ha'
    have hel : (eSs l).length = l.length := by simp [eSs]
    refine .sl s.1 0 l.length s.2.1 1 (eSs l ++ s.2.2) (eSs l) (by simp) hel hs.1 (uniS l) (fun y hy c hc => ?_) (by rw [List.length_append, hel]; omega) (fun i y j c c' hy hc hc' => ?_)
    · obtain ⟨z, _, rfl⟩ := List.mem_map.1 hy
      simp [AV.cells] at hc; subst hc; rfl
    · obtain ⟨z, hz, rfl⟩ : ∃ z, l[i]? = some z ∧ y = .lit (.string z) := by
        simp [eSs] at hy
        obtain ⟨z, h1, h2⟩ := hy
        exact ⟨z, h1, h2.symm⟩
      match j, hc with
      | 0, hc =>
        simp [AV.cells] at hc; subst hc
        have hi := (List.getElem?_eq_some_iff.1 hy).1
        rw [show 0 + (i * 1 + 0) = i by omega, List.getElem?_append_left hi, hy] at hc'
        injection hc' with hc'
        subst hc'
        exact .refl _
      | j + 1, hc => simp [AV.cells] at hc
  | 1 => simp at ha ha'; subst ha; subst ha'; exact .refl _
  | i + 2 => simp at ha
section
variable (m : List Cl) (mm : List (AV × AV)) (is : List In) (hm : m.length < 1000) (hsup : ∀ c ∈ m, c.sup.length < 1000)
abbrev UpP (m : List Cl) (mm : List (AV × AV)) (is : List In) (b2 b5 b6 n : Nat) (s : ByteArray) (l : List ByteArray) : AV → Nat → List (Nat × HO) → Prop := fun r o h => o = 0 ∧ ∃ st', aOk (abv m n s l) st' ∧ h = aH b2 b5 b6 (eEnv m mm is) (abv m n s l) st'
theorem foldl_abv (n : Nat) : ∀ (xs : List ByteArray) (t : List ByteArray), unseen m (xs.foldl (fun t x => abv m n x t) t) ≤ unseen m t
  | [], t => Nat.le_refl _
  | x :: xs, t => Nat.le_trans (foldl_abv n xs _) (abv_mono m n x t).1
include hm hsup
omit hm hsup in
/-- Behind the append: the classes above, one by one. -/
theorem up_tail (b2 b5 b6 n : Nat) (ih : ∀ (s : ByteArray) (l : List ByteArray) (st : LSt), aOk l st → unseen m l < n → FewU m l → CallsG Tryd.prog (fvA b2 b5 b6) (aH b2 b5 b6 (eEnv m mm is) l st) [.lit (.string s)] [] (UpP m mm is b2 b5 b6 n s l))
    (c : Cl) (hc : c.sup.length < 1000) (L : List ByteArray) (st : LSt) (hok : aOk L st) (hun : unseen m L < n) (hfew : FewU m L) (R : List ByteArray) (hR : R = c.sup.foldl (fun t x => abv m n x t) L) {Q : CE → Prop} (hQ : ∀ vs ow al st', aOk R st' → Q { vs := vs, ow := ow, al := al, hp := aH b2 b5 b6 (eEnv m mm is) R st' }) :
    Wsem Tryd.prog (sndC (sndC (sndC (bodyC Tryd.f47)))) (mkC { vs := [(3, .v (ptrA b6)), (5, .box 0 (eCl c))], hp := aH b2 b5 b6 (eEnv m mm is) L st }) Q (fun _ _ => False) Q := by
  refine Wsem.of ttok mixed ?_
  refine ⟨{p : Nat × LSt × List ByteArray // p.1 ≤ c.sup.length ∧ p.2.2 = (c.sup.take p.1).foldl (fun t x => abv m n x t) L ∧ aOk p.2.2 p.2.1}, fun p => { vs := [(3, .v (ptrA b6)), (30, .v (.sl (eSs c.sup))), (31, sv (c.sup.length : Nat)), (32, sv (p.1.1 : Nat))], hp := aH b2 b5 b6 (eEnv m mm is) p.1.2.2 p.1.2.1 },
    fun p => c.sup.length - p.1.1, ⟨(0, st, L), Nat.zero_le _, rfl, hok⟩, ⟨⟨rfl, rfl, svc (by simp [eSs]), rfl, trivial⟩, trivial, rfl⟩, ?_⟩
  rintro ⟨⟨k, st1, L1⟩, hk, hL1, hok1⟩
  simp only at hk hL1 hok1
  refine ⟨fun h => ?_, fun h => ?_⟩
  · have h : k < c.sup.length := by have h : (k : Int) < (c.sup.length : Nat) := of_decide_eq_true h; omega
    refine ⟨_, by omega, getS h, rfl, ?_⟩
    refine ⟨2, _, _, rfl, rfl, ?_⟩
    have hI := ih c.sup[k] L1 st1 hok1 (by rw [hL1]; exact Nat.lt_of_le_of_lt (foldl_abv m n _ _) hun) (by rw [hL1]; exact foldl_few (fun t x ht => abv_few m n x t ht) _ _ hfew)
    refine .inr (.inr (.inr (.inr (.inr (.inl ⟨[0, 1, 2, 3], _, [], _, rfl, by decide, rfl, hI, ?_⟩)))))
    rintro r o h' ⟨rfl, st2, hok2, rfl⟩
    have e : abv m n c.sup[k] L1 = (c.sup.take (k + 1)).foldl (fun t x => abv m n x t) L := by
      rw [List.take_succ_eq_append_getElem h, List.foldl_append, ← hL1]; rfl
    exact ⟨⟨(k + 1, st2, _), h, e, hok2⟩, (show c.sup.length - (k + 1) < c.sup.length - k by omega), ⟨rfl, rfl, rfl, svc (wrap_succ (k := k) (by omega)), trivial⟩, trivial, rfl⟩
  · have h : k = c.sup.length := by have h : ¬ (k : Int) < (c.sup.length : Nat) := of_decide_eq_false h; omega
    subst h
    rw [List.take_length, ← hR] at hL1
    subst hL1
    exact hQ _ _ _ st1 hok1
theorem up_ok (b2 b5 b6 : Nat) : ∀ (n : Nat) (s : ByteArray) (l : List ByteArray) (st : LSt), aOk l st → unseen m l < n → FewU m l → CallsG Tryd.prog (fvA b2 b5 b6) (aH b2 b5 b6 (eEnv m mm is) l st) [.lit (.string s)] [] (UpP m mm is b2 b5 b6 n s l) := by
  intro n
  induction n with
  | zero => intro s l st _ h; omega
  | succ n ih =>
    intro s l st hok hun hfew
    have hlen := few_lt hfew
    have hel : (eSs l).length = l.length := by simp [eSs]
    refine CallsG.less0 (post := fun r o h => ∃ st', aOk (abv m (n + 1) s l) st' ∧ h = aH b2 b5 b6 (eEnv m mm is) (abv m (n + 1) s l) st') ?_ (fun r o h hp => ⟨h, [], by simp, rfl, hp⟩)
    refine callsG_of_wsem (first := []) (cap := [ptrV b2, ptrV b5, ptrV b6]) ttok mixed Tryd.func47 rfl (by rfl) rfl (Nat.le_of_ble_eq_true rfl) (by kernel_rfl) ?_
    refine Wsem.seq ttok mixed ?_
    refine ⟨0, _, _, rfl, rfl, ?_⟩
    rcases found_cls m s with ⟨e1, e2⟩ | ⟨j, c, e1, e2⟩
    · refine ⟨none, keys_cls m, trivial, e2, ?_⟩
      have e : abv m (n + 1) s l = l := by rw [abv, if_pos (by simp [exC, e1])]
      rw [e]
      refine Wsem.seq ttok mixed ?_
      exact ⟨st, hok, rfl⟩
    · refine ⟨some (j, eCl c), keys_cls m, trivial, e2, ?_⟩
      refine Wsem.seq ttok mixed ?_
      refine ⟨1, _, _, rfl, rfl, ?_⟩
      refine .inr (.inr (.inl ⟨[3], _, _, rfl, by decide, containsH l st hok (by omega) s, ?_⟩))
      cases hs : memb s l with
      | true =>
        have e : abv m (n + 1) s l = l := by rw [abv, if_pos (by simp [hs])]
        rw [e]
        refine ⟨fun hbs => ?_, fun hbs => ?_⟩ <;> first | (exfalso; revert hbs; (simp); done) | skip
        exact ⟨st, hok, rfl⟩
      | false =>
        have hns : s ∉ l := fun h => by rw [memb_iff.2 h] at hs; cases hs
        have hex : exC m s = true := by simp [exC, e1]
        have e : abv m (n + 1) s l = c.sup.foldl (fun t x => abv m n x t) (l ++ [s]) := by
          rw [abv, if_neg (by simp [hs, hex])]; unfold sups; rw [e1]
        have hu := unseen_lt (m := m) (sn := l) hex hns
        rw [e]
        refine ⟨fun hbs => ?_, fun hbs => ?_⟩ <;> first | (exfalso; revert hbs; (simp); done) | skip
        refine Wsem.seq ttok mixed ?_
        refine ⟨1, _, _, rfl, rfl, ?_⟩
        refine ⟨rfl, by simp, by simp; omega, uni1 rfl, 3, _, rfl, hok.1, ?_, fun b' cap' zs h1 h2 => ?_⟩
        · show (eSs l ++ st.2.2).length = st.2.1 * 1
          rw [List.length_append, hel]; have := hok.2; omega
        refine ⟨rfl, 1, _, rfl, Nat.le_of_ble_eq_true rfl, ?_⟩
        refine Wsem.cut { vs := [(3, .v (ptrA b6)), (5, .box 0 (eCl c))], hp := aH b2 b5 b6 (eEnv m mm is) (l ++ [s]) (b', cap', zs) } ⟨⟨rfl, rfl, trivial⟩, trivial, ?_⟩ ?_
        · show [(b2, HO.cells [eEnv m mm is]), (b5, HO.cells [.lit (.slice (some ⟨b', 0, none⟩) (l.length + 1) cap')]), (b6, HO.cells [.lit (fvA b2 b5 b6)]), (b', HO.cells ((eSs l ++ st.2.2).take (l.length * 1) ++ ([.lit (.string s)] ++ zs)))] = _
          have e1 : (eSs l ++ st.2.2).take (l.length * 1) ++ ([.lit (.string s)] ++ zs) = eSs (l ++ [s]) ++ zs := by
            rw [List.take_append_of_le_length (by rw [hel]; omega), List.take_of_length_le (by rw [hel]; omega)]
            simp [eSs]
          rw [e1]
          unfold aH
          rw [List.length_append]
          rfl
        · have h1' : l.length + 1 ≤ cap' := h1
          have h2' : zs.length = (cap' - (l.length + 1)) * 1 := h2
          exact up_tail m mm is b2 b5 b6 n ih c (hsup c (lookC_mem e1).1) (l ++ [s]) (b', cap', zs) ⟨by simpa using h1', by show zs.length + (l ++ [s]).length = cap'; simp; omega⟩ (by omega) (by unfold FewU at hfew ⊢; simp; omega) _ rfl (fun vs ow al st' h => ⟨st', h, rfl⟩)
abbrev aH0 (b2 b5 b6 : Nat) (env : AV) : List (Nat × HO) := [(b2, HO.cells [env]), (b5, HO.cells [.lit (.slice none 0 0)]), (b6, HO.cells [.lit (fvA b2 b5 b6)])]
theorem up0_ok (b2 b5 b6 n : Nat) (s : ByteArray) (hn : m.length < n + 1) : CallsG Tryd.prog (fvA b2 b5 b6) (aH0 b2 b5 b6 (eEnv m mm is)) [.lit (.string s)] [] fun r o h => o = 0 ∧ ((abv m (n + 1) s [] = [] ∧ h = aH0 b2 b5 b6 (eEnv m mm is)) ∨ ∃ st', aOk (abv m (n + 1) s []) st' ∧ h = aH b2 b5 b6 (eEnv m mm is) (abv m (n + 1) s []) st') := by
  have hun : unseen m [] ≤ m.length := List.length_filter_le _ _
  have hfew : FewU m [] := by unfold FewU; simpa using hun
  refine CallsG.less0 (post := fun r o h => (abv m (n + 1) s [] = [] ∧ h = aH0 b2 b5 b6 (eEnv m mm is)) ∨ ∃ st', aOk (abv m (n + 1) s []) st' ∧ h = aH b2 b5 b6 (eEnv m mm is) (abv m (n + 1) s []) st') ?_ (fun r o h hp => ⟨h, [], by simp, rfl, hp⟩)
  refine callsG_of_wsem (first := []) (cap := [ptrV b2, ptrV b5, ptrV b6]) ttok mixed Tryd.func47 rfl (by rfl) rfl (Nat.le_of_ble_eq_true rfl) (by kernel_rfl) ?_
  refine Wsem.seq ttok mixed ?_
  refine ⟨0, _, _, rfl, rfl, ?_⟩
  rcases found_cls m s with ⟨e1, e2⟩ | ⟨j, c, e1, e2⟩
  · refine ⟨none, keys_cls m, trivial, e2, ?_⟩
    have e : abv m (n + 1) s [] = [] := by rw [abv, if_pos (by simp [exC, e1])]
    refine Wsem.seq ttok mixed ?_
    exact .inl ⟨e, rfl⟩
  · refine ⟨some (j, eCl c), keys_cls m, trivial, e2, ?_⟩
    refine Wsem.seq ttok mixed ?_
    refine ⟨1, _, _, rfl, rfl, ?_⟩
    have hcont : CallsG Tryd.prog (fnv n_slices_Contains_stringstring) [] [.lit (.slice none 0 0), .lit (.string s)] [] fun r o h => r = .sb false ∧ o = 0 ∧ h = [] := by
      refine CallsG.lend (contains_ok (l := []) (s := s) (by simp)) rfl (fun i a a' ha ha' => ?_) atom_sb
      match i with
      | 0 => simp at ha ha'; subst ha; subst ha'; exact .nilL
      | 1 => simp at ha ha'; subst ha; subst ha'; exact .refl _
      | i + 2 => simp at ha
    refine .inr (.inl ⟨_, hcont, ?_⟩)
    have hex : exC m s = true := by simp [exC, e1]
    have e : abv m (n + 1) s [] = c.sup.foldl (fun t x => abv m n x t) [s] := by
      rw [abv, if_neg (by simp [hex, memb])]; unfold sups; rw [e1]; rfl
    have hu := unseen_lt (m := m) (sn := []) hex (by simp)
    rw [e]
    refine ⟨fun hbs => ?_, fun hbs => ?_⟩ <;> first | (exfalso; revert hbs; (simp); done) | skip
    refine Wsem.seq ttok mixed ?_
    refine ⟨1, _, _, rfl, rfl, ?_⟩
    refine ⟨rfl, by simp, by simp, uni1 rfl, rfl, rfl, fun b' cap' zs h1 h2 => ?_⟩
    refine ⟨rfl, 1, _, rfl, Nat.le_of_ble_eq_true rfl, ?_⟩
    have h1' : 0 + 1 ≤ cap' := h1
    have h2' : zs.length = (cap' - (0 + 1)) * 1 := h2
    refine Wsem.cut { vs := [(3, .v (ptrA b6)), (5, .box 0 (eCl c))], hp := aH b2 b5 b6 (eEnv m mm is) [s] (b', cap', zs) } ⟨⟨rfl, rfl, trivial⟩, trivial, ?_⟩ ?_
    · exact rfl
    · exact up_tail m mm is b2 b5 b6 n (up_ok m mm is hm hsup b2 b5 b6 n) c (hsup c (lookC_mem e1).1) [s] (b', cap', zs) ⟨by simpa using h1', by show zs.length + 1 = cap'; omega⟩ (by have : [] ++ [s] = [s] := rfl; rw [this] at hu; omega) (by unfold FewU at hfew ⊢; have : [] ++ [s] = [s] := rfl; rw [this] at hu; simp at hfew ⊢; omega) _ rfl (fun vs ow al st' h => .inr ⟨st', h, rfl⟩)
theorem aboveL_ok (s : ByteArray) : ACall Tryd.prog n_classes_Env_Above [eEnv m mm is, .lit (.string s)] (.sl (eSs (abv m (m.length + 1) s []))) := by
  refine CallsG.pure (callsG_of_wcx (first := []) (cap := []) ttok mixed Tryd.func13 rfl (by rfl) rfl (Nat.le_of_ble_eq_true rfl) (by kernel_rfl) (post := fun r o h => o = 0 ∧ ((abv m (m.length + 1) s [] = [] ∧ r = .lit (.slice none 0 0)) ∨ ∃ (st' : LSt) (b2 b5 b6 : Nat), aOk (abv m (m.length + 1) s []) st' ∧ r = .lit (.slice (some ⟨st'.1, 0, none⟩) (abv m (m.length + 1) s []).length st'.2.1) ∧ h = aH b2 b5 b6 (eEnv m mm is) (abv m (m.length + 1) s []) st')) ?_) (fun r o h hp => ?_)
  rotate_left
  · obtain ⟨h0, ⟨h1, rfl⟩ | ⟨st, b2, b5, b6, hok, rfl, rfl⟩⟩ := hp
    · rw [h1]; exact ⟨.nilL, h0⟩
    · refine ⟨?_, h0⟩
      generalize abv m (m.length + 1) s [] = l at hok
      have hel : (eSs l).length = l.length := by simp [eSs]
      refine .sl st.1 0 l.length st.2.1 1 (eSs l ++ st.2.2) (eSs l) (by simp [aH]) hel hok.1 (uniS l) (fun y hy c hc => ?_) (by rw [List.length_append, hel]; omega) (fun i y j c c' hy hc hc' => ?_)
      · obtain ⟨z, _, rfl⟩ := List.mem_map.1 hy
        simp [AV.cells] at hc; subst hc; rfl
      · obtain ⟨z, hz, rfl⟩ : ∃ z, l[i]? = some z ∧ y = .lit (.string z) := by
          simp [eSs] at hy
          obtain ⟨z, h1, h2⟩ := hy
          exact ⟨z, h1, h2.symm⟩
        match j, hc with
        | 0, hc =>
          simp [AV.cells] at hc; subst hc
          have hi := (List.getElem?_eq_some_iff.1 hy).1
          rw [show 0 + (i * 1 + 0) = i by omega, List.getElem?_append_left hi, hy] at hc'
          injection hc' with hc'
          subst hc'
          exact .refl _
        | j + 1, hc => simp [AV.cells] at hc
  refine .inr ⟨rfl, fun b2 => ⟨rfl, fun b5 => ⟨rfl, fun b6 => ?_⟩⟩⟩
  refine ⟨rfl, 2, _, rfl, Nat.le_of_ble_eq_true rfl, ?_⟩
  refine ⟨2, _, _, rfl, rfl, ?_⟩
  have hU := preH (hin' := aH0 b2 b5 b6 (eEnv m mm is)) (hin := [(b2, HO.cells [eEnv m mm is]), (b5, HO.cells [.nil]), (b6, HO.cells [.lit (fvA b2 b5 b6)])]) rfl (fun F w hh => ⟨hh.nodup, hh.shut, fun x hx => ?_⟩) (up0_ok m mm is hm hsup b2 b5 b6 m.length s (by omega))
  · refine .inr (.inr (.inr (.inr (.inr (.inl ⟨[0, 1, 2], _, [], _, rfl, by decide, rfl, hU, ?_⟩)))))
    rintro r o h' ⟨rfl, ⟨h1, rfl⟩ | ⟨st', hok, rfl⟩⟩
    · refine ⟨1, _, _, rfl, rfl, ?_⟩
      exact ⟨rfl, .inl ⟨h1, rfl⟩⟩
    · refine ⟨1, _, _, rfl, rfl, ?_⟩
      exact ⟨rfl, .inr ⟨st', b2, b5, b6, hok, rfl, rfl⟩⟩
  · simp only [aH0, List.mem_cons, List.not_mem_nil, or_false] at hx
    rcases hx with rfl | rfl | rfl
    · exact hh.ok _ (by simp)
    · obtain ⟨cs, E, h1, h2⟩ := hh.ok (b5, HO.cells [.nil]) (by simp)
      refine ⟨cs, E, h1, h2.1, fun j u c hu hc => ?_⟩
      match j, hc with
      | 0, hc =>
        simp at hc; subst hc
        have := (h2.2 0 u .nil hu rfl).1.nil_eq
        subst this
        exact ⟨.lit _ rfl, rfl⟩
      | j + 1, hc => simp at hc
    · exact hh.ok _ (by simp)
end
end Go.Proofs.YtkhnjmbgkakngaaDoor

namespace Go.Proofs.YtkhnjmbgkakngaaDoor
open Go Fp
set_option maxRecDepth 10000
set_option linter.unusedVariables false
set_option linter.unusedSimpArgs false

/-! ### ways up -/
inductive Wlk (m : List Cl) : ByteArray → ByteArray → Prop
  | refl {a} : exC m a = true → Wlk m a a
  | step {a b c} : b ∈ sups m a → exC m b = true → Wlk m b c → Wlk m a c
theorem exC_sups {m : List Cl} {a b : ByteArray} (h : b ∈ sups m a) : exC m a = true := by
  unfold sups at h; unfold exC
  cases hl : lookC m a with
  | none => rw [hl] at h; simp at h
  | some c => rfl
theorem Wlk.ex {m : List Cl} {a b : ByteArray} (h : Wlk m a b) : exC m a = true ∧ exC m b = true := by
  induction h with
  | refl h => exact ⟨h, h⟩
  | step h1 h2 _ ih => exact ⟨exC_sups h1, ih.2⟩
theorem Wlk.trans {m : List Cl} {a b c : ByteArray} (h : Wlk m a b) (h' : Wlk m b c) : Wlk m a c := by
  induction h with
  | refl _ => exact h'
  | step h1 h2 _ ih => exact .step h1 h2 (ih h')
theorem firstI_some {f : ByteArray → Option (List Int)} : ∀ {xs : List ByteArray} {i : Nat} {l : List Int}, firstI f i xs = some l → ∃ x ∈ xs, (f x).isSome = true
  | [], _, _, h => by simp [firstI] at h
  | x :: xs, i, l, h => by
    rw [firstI] at h
    split at h
    · rename_i l' h'; exact ⟨x, List.mem_cons_self, by rw [h']; rfl⟩
    · obtain ⟨y, h1, h2⟩ := firstI_some h
      exact ⟨y, List.mem_cons_of_mem _ h1, h2⟩
theorem firstI_of {f : ByteArray → Option (List Int)} : ∀ {xs : List ByteArray} {i : Nat} {x : ByteArray}, x ∈ xs → (f x).isSome = true → ∃ l, firstI f i xs = some l
  | [], _, _, h, _ => by simp at h
  | y :: xs, i, x, h, hf => by
    rw [firstI]
    cases hy : f y with
    | some l => exact ⟨_, rfl⟩
    | none =>
      rcases List.mem_cons.1 h with rfl | h
      · rw [hy] at hf; cases hf
      · exact firstI_of h hf
theorem wlk_of {m : List Cl} {to : ByteArray} : ∀ (n : Nat) (a : ByteArray) (l : List Int), pathD m to n a = some l → Wlk m a to
  | 0, a, l, h => by
    rw [pathD] at h
    split at h
    · rename_i hc; obtain ⟨h1, h2⟩ := hc; subst h2; exact .refl h1
    · cases h
  | n + 1, a, l, h => by
    rw [pathD] at h
    obtain ⟨x, h1, h2⟩ := firstI_some h
    obtain ⟨p, hp⟩ := Option.isSome_iff_exists.1 h2
    have hw := wlk_of n x p hp
    exact .step h1 hw.ex.1 hw
theorem of_wlk {m : List Cl} {a b : ByteArray} (h : Wlk m a b) : ∃ n l, pathD m b n a = some l := by
  induction h with
  | refl h => exact ⟨0, [], by simp [pathD, h]⟩
  | step h1 h2 _ ih =>
    obtain ⟨n, l, h3⟩ := ih
    obtain ⟨l', h4⟩ := firstI_of (f := pathD m _ n) (i := 0) h1 (by rw [h3]; rfl)
    exact ⟨n + 1, l', h4⟩
/-- The code finds a way if there is one. -/
theorem pathB_iff {m : List Cl} {a b : ByteArray} : (pathB m a b).1 = true ↔ Wlk m a b := by
  constructor
  · intro h
    rw [pathB_eq] at h
    unfold pathsD at h
    obtain ⟨l, h⟩ := Option.isSome_iff_exists.1 h
    obtain ⟨n, _, h⟩ := List.exists_of_findSome?_eq_some h
    exact wlk_of n a l h
  · intro h
    obtain ⟨n, l, hn⟩ := of_wlk h
    have he := h.ex.1
    unfold pathB
    by_cases hf : a = b
    · rw [if_pos (.inl hf), he]
    · rw [if_neg (by simp [he, hf])]
      rcases findSome_range (fun j => pathD m b j a) (n + 1) with ⟨_, h2⟩ | ⟨k, p, h1, h2, h3, _⟩
      · rw [h2 n (by omega)] at hn; cases hn
      · cases k with
        | zero => simp [pathD, hf] at h2
        | succ k =>
          have hl := fun j => lv_find m b j (a, []) he
          obtain ⟨K, hK⟩ := full_of m b (a, []) k (r := (b, p)) (by rw [hl, h2]; rfl) (fun j hj => by rw [hl, h3 (j + 1) (by omega)]; rfl)
          rw [bfs_full m b K [(a, [])] [(a, [])] [] [] (m.length + 1) (b, p) hK (.keep .nil) (by simp) (by simp) (by simp) (by simp [unseen]; exact List.length_filter_le _ _)]

/-! ### what holds -/
inductive Dv (m : List Cl) (is : List In) (g : List PR) : PR → Prop
  | given {q x} : q ∈ g → Wlk m q.cls x.cls → q.ty = x.ty → Dv m is g x
  | inst {x n l} : instE is x = some (n, l) → (∀ q ∈ l, Dv m is g q) → Dv m is g x
theorem byG_some {m : List Cl} {x : PR} : ∀ (g : List PR) (i : Nat), (∃ v, byG m x i g = some v) ↔ ∃ q ∈ g, Wlk m q.cls x.cls ∧ q.ty = x.ty
  | [], i => by simp [byG]
  | q :: g, i => by
    rw [byG]
    by_cases h : ((pathB m q.cls x.cls).1 && decide (q.ty = x.ty)) = true
    · rw [if_pos h]
      simp only [Bool.and_eq_true, decide_eq_true_eq] at h
      exact ⟨fun _ => ⟨q, List.mem_cons_self, pathB_iff.1 h.1, h.2⟩, fun _ => ⟨_, rfl⟩⟩
    · rw [if_neg h, byG_some g (i + 1)]
      simp only [Bool.and_eq_true, decide_eq_true_eq] at h
      exact ⟨fun ⟨q', h1, h2⟩ => ⟨q', List.mem_cons_of_mem _ h1, h2⟩, fun ⟨q', h1, h2, h3⟩ => by
        rcases List.mem_cons.1 h1 with rfl | h1
        · exact absurd ⟨pathB_iff.2 h2, h3⟩ h
        · exact ⟨q', h1, h2, h3⟩⟩
theorem kidsO_of {f : PR → Option Ev} : ∀ {l : List PR}, (∀ q ∈ l, ∃ v, f q = some v) → ∃ ks, kidsO f l = some ks
  | [], _ => ⟨[], rfl⟩
  | q :: l, h => by
    obtain ⟨v, hv⟩ := h q List.mem_cons_self
    obtain ⟨ks, hk⟩ := kidsO_of (l := l) fun q hq => h q (List.mem_cons_of_mem _ hq)
    exact ⟨v :: ks, by rw [kidsO, hv, hk]; rfl⟩
theorem kidsO_all {f : PR → Option Ev} : ∀ {l : List PR} {ks : List Ev}, kidsO f l = some ks → ∀ q ∈ l, ∃ v, f q = some v
  | [], ks, h, q, hq => by simp at hq
  | p :: l, ks, h, q, hq => by
    rw [kidsO] at h
    split at h
    · cases h
    · rename_i v hv
      obtain ⟨ks', h1, _⟩ := Option.map_eq_some_iff.1 h
      rcases List.mem_cons.1 hq with rfl | hq
      · exact ⟨v, hv⟩
      · exact kidsO_all h1 q hq
theorem byE_dv {m : List Cl} {is : List In} {g : List PR} : ∀ (n : Nat) (x : PR) (v : Ev), byE m is g n x = some v → Dv m is g x
  | 0, x, v, h => by simp [byE] at h
  | n + 1, x, v, h => by
    rw [byE] at h
    split at h
    · rename_i v' hG
      obtain ⟨q, h1, h2, h3⟩ := (byG_some g 0).1 ⟨v', hG⟩
      exact .given h1 h2 h3
    · split at h
      · cases h
      · rename_i k l hE
        obtain ⟨ks, h4, _⟩ := Option.map_eq_some_iff.1 h
        exact .inst hE fun q hq => by
          obtain ⟨v', hv'⟩ := kidsO_all h4 q hq
          exact byE_dv n q v' hv'
theorem dv_byE {m : List Cl} {is : List In} {g : List PR} (hy : ∀ y ∈ is, WIn y) {x : PR} (h : Dv m is g x) : nA x.ty → ∀ n, x.ty.sz < n → ∃ v, byE m is g n x = some v := by
  induction h with
  | @given q x h1 h2 h3 =>
    intro _ n hn
    cases n with
    | zero => omega
    | succ n =>
      obtain ⟨v, hv⟩ := (byG_some g 0).2 ⟨q, h1, h2, h3⟩
      exact ⟨v, by rw [byE, hv]⟩
  | @inst x k l h1 h2 ih =>
    intro hx n hn
    cases n with
    | zero => omega
    | succ n =>
      obtain ⟨_, _, hk⟩ := inst_kids hy hx h1
      rw [byE]
      cases hG : byG m x 0 g with
      | some v => exact ⟨v, rfl⟩
      | none =>
        obtain ⟨ks, hks⟩ := kidsO_of (f := byE m is g n) fun q hq => ih q hq (hk q hq).1 n (by have := (hk q hq).2; omega)
        exact ⟨_, by simp only [h1, hks]; rfl⟩
end Go.Proofs.YtkhnjmbgkakngaaDoor

namespace Go.Proofs.YtkhnjmbgkakngaaDoor
open Go Fp
set_option maxRecDepth 10000
set_option linter.unusedVariables false
set_option linter.unusedSimpArgs false

theorem spHd_app (a b : Tp) : spHd (.app a b) = spHd a := rfl
/-- A type is what its spine begins with, given its arguments. -/
theorem tp_spine : ∀ (t : Tp), t = (args t).foldl .app (spHd t)
  | .app a b => by
    rw [args_app, List.foldl_append, spHd_app, ← tp_spine a]; rfl
  | .no => rfl
  | .mt _ => rfl
  | .var _ => rfl
  | .con _ => rfl
  | .all _ _ => rfl
theorem spHd_na : ∀ {t : Tp}, nA t → ∀ a b, spHd t ≠ .app a b
  | .app x y, h, a, b => spHd_na (t := x) h.1 a b
  | .no, _, _, _ | .mt _, _, _, _ | .var _, _, _, _ | .con _, _, _, _ => by simp [spHd]
theorem spHd_sub : ∀ {t : Tp} (ps : Env'), (spHd t).form = 3 → spHd (sub t ps) = spHd t ∧ args (sub t ps) = (args t).map (sub · ps)
  | .app a b, ps, h => by
    obtain ⟨h1, h2⟩ := spHd_sub (t := a) ps h
    rw [sub, spHd_app, spHd_app, args_app, args_app, h1, h2]
    simp
  | .con s, ps, h => by simp [sub, args, spAr]
  | .no, ps, h | .mt _, ps, h | .var _, ps, h | .all _ _, ps, h => by simp [spHd, Tp.form] at h
theorem look_map (ps : Env') : ∀ (vs : List ByteArray) (as' : List Tp) (s : ByteArray), look s (vs.zip (as'.map (sub · ps))) = (look s (vs.zip as')).map (sub · ps)
  | [], _, _ => rfl
  | _ :: _, [], _ => rfl
  | v :: vs, a :: as', s => by
    simp only [List.map_cons, List.zip_cons_cons, look]
    split
    · rfl
    · exact look_map ps vs as' s
theorem needs_sub {y : In} (hy : WIn y) (t : Tp) (ps : Env') {l : List PR} (h : needsE y t = some l) : needsE y (sub t ps) = some (l.map (putP ps)) := by
  unfold needsE at h ⊢
  split at h
  · rename_i hc
    injection h with h; subst h
    obtain ⟨h1, h2⟩ := spHd_sub ps hc.1
    rw [h1, h2, if_pos ⟨hc.1, hc.2.1, by rw [List.length_map]; exact hc.2.2⟩, List.map_map]
    congr 1
    refine List.map_congr_left fun q hq => ?_
    obtain ⟨s, hs, e⟩ := hy.var q hq
    obtain ⟨a, ha, hl⟩ := look_zip (s := s) (vs := y.vars) (as' := args t) hc.2.2 hs
    simp only [Function.comp, putP, e, sub]
    rw [look_map, hl]
    rfl
  · cases h
theorem inst_sub {is : List In} (hy : ∀ y ∈ is, WIn y) (x : PR) (ps : Env') {n : Nat} {l : List PR} (h : instE is x = some (n, l)) : instE is (putP ps x) = some (n, l.map (putP ps)) := by
  unfold instE at h ⊢
  split at h
  · rename_i hf
    obtain ⟨h1, h2⟩ := spHd_sub ps hf
    have hf' : (spHd (putP ps x).ty).form = 3 := by show (spHd (sub x.ty ps)).form = 3; rw [h1]; exact hf
    rw [if_pos hf']
    rw [show (spHd (putP ps x).ty) = spHd x.ty from h1]
    rw [show (putP ps x).cls = x.cls from rfl]
    split at h
    · rename_i n' hn
      split at h
      · rename_i y hyy
        obtain ⟨l', h3, h4⟩ := Option.map_eq_some_iff.1 h
        injection h4 with h4 h5
        subst h4; subst h5
        rw [show (putP ps x).ty = sub x.ty ps from rfl, needs_sub (hy y (List.mem_of_getElem? hyy)) x.ty ps h3]
        rfl
      · cases h
    · cases h
  · cases h
/-- With types in the place of variables everywhere, what held holds. -/
theorem Dv.put {m : List Cl} {is : List In} (hy : ∀ y ∈ is, WIn y) {g : List PR} (ps : Env') {x : PR} (h : Dv m is g x) : Dv m is (g.map (putP ps)) (putP ps x) := by
  induction h with
  | given h1 h2 h3 => exact .given (List.mem_map.2 ⟨_, h1, rfl⟩) h2 (by show sub _ ps = sub _ ps; rw [h3])
  | inst h1 h2 ih =>
    refine .inst (inst_sub hy _ ps h1) (fun q hq => ?_)
    obtain ⟨p, hp, rfl⟩ := List.mem_map.1 hq
    exact ih p hp
theorem Dv.mono {m : List Cl} {is : List In} {g g' : List PR} (hg : ∀ q ∈ g, q ∈ g') {x : PR} (h : Dv m is g x) : Dv m is g' x := by
  induction h with
  | given h1 h2 h3 => exact .given (hg _ h1) h2 h3
  | inst h1 _ ih => exact .inst h1 ih
/-- Cut, where what is cut holds for all classes above, too. -/
theorem Dv.cut {m : List Cl} {is : List In} {g L : List PR} (hL : ∀ q ∈ L, ∀ c, Wlk m q.cls c → Dv m is g ⟨c, q.ty⟩) {x : PR} (h : Dv m is L x) : Dv m is g x := by
  induction h with
  | @given q x h1 h2 h3 =>
    have := hL q h1 x.cls h2
    rw [h3] at this
    exact this
  | inst h1 _ ih => exact .inst h1 ih

/-! ### classes above -/
/-- What an instance is of. -/
def hdTy (y : In) : Tp := (y.vars.map .var).foldl .app (.con y.con)
/-- Each instance's class's Supers hold of its type, where its own predicates are given. -/
def Whl (m : List Cl) (is : List In) : Prop := ∀ y ∈ is, ∀ c ∈ sups m y.cls, Dv m is y.prs ⟨c, hdTy y⟩
theorem look_nd : ∀ {vs : List ByteArray} {as' : List Tp}, vs.Nodup → as'.length = vs.length → (vs.map fun s => (look s (vs.zip as')).getD (.var s)) = as'
  | [], [], _, _ => rfl
  | [], _ :: _, _, h => by simp at h
  | _ :: _, [], _, h => by simp at h
  | v :: vs, a :: as', hn, h => by
    rw [List.nodup_cons] at hn
    simp only [List.map_cons, List.zip_cons_cons, look, if_true, Option.getD_some]
    congr 1
    refine (List.map_congr_left fun s hs => ?_).trans (look_nd hn.2 (by simpa using h))
    rw [if_neg (show ¬ v = s from fun e => hn.1 (by rw [e]; exact hs))]
theorem sub_foldl (ps : Env') : ∀ (l : List Tp) (t : Tp), sub (l.foldl .app t) ps = (l.map (sub · ps)).foldl .app (sub t ps)
  | [], t => rfl
  | a :: l, t => by rw [List.foldl_cons, sub_foldl ps l, sub]; rfl
theorem hdTy_sub {y : In} (hn : y.vars.Nodup) {t : Tp} (h1 : spHd t = .con y.con) (h2 : (args t).length = y.vars.length) : sub (hdTy y) (y.vars.zip (args t)) = t := by
  unfold hdTy
  rw [sub_foldl, List.map_map]
  have e : y.vars.map ((sub · (y.vars.zip (args t))) ∘ .var) = args t := by
    refine Eq.trans ?_ (look_nd hn h2)
    refine List.map_congr_left fun s _ => ?_
    simp [Function.comp, sub]
  rw [e]
  conv => rhs; rw [tp_spine t, h1]
  rfl
theorem form3 {t : Tp} (h : t.form = 3) : ∃ s, t = .con s ∧ t.nam = s := by
  cases t <;> simp [Tp.form] at h
  exact ⟨_, rfl, rfl⟩
theorem inst_of {is : List In} {x : PR} {n : Nat} {l : List PR} (h : instE is x = some (n, l)) : ∃ y ∈ is, y.cls = x.cls ∧ spHd x.ty = .con y.con ∧ (args x.ty).length = y.vars.length ∧ l = y.prs.map (putP (y.vars.zip (args x.ty))) := by
  unfold instE at h
  split at h
  · rename_i hf
    split at h
    · rename_i n' hn
      obtain ⟨h1, h2, h3⟩ := instI_lt hn
      split at h
      · rename_i y hyy
        obtain ⟨l', h4, h5⟩ := Option.map_eq_some_iff.1 h
        injection h5 with h5 h6
        subst h5; subst h6
        have e : y = is[n'] := by rw [List.getElem?_eq_getElem h1] at hyy; injection hyy with hyy; exact hyy.symm
        unfold needsE at h4
        split at h4
        · rename_i hc
          injection h4 with h4
          obtain ⟨s, hs1, hs2⟩ := form3 hf
          refine ⟨y, List.mem_of_getElem? hyy, by rw [e]; exact h2, ?_, hc.2.2, h4.symm⟩
          rw [hs1, ← hc.2.1, hs2]
        · cases h4
      · cases h
    · cases h
  · cases h
theorem Dv.sup {m : List Cl} {is : List In} (hy : ∀ y ∈ is, WIn y) (hnd : ∀ y ∈ is, y.vars.Nodup) (hw : Whl m is) {g : List PR} : ∀ (N : Nat) (x : PR), x.ty.sz < N → nA x.ty → Dv m is g x → ∀ c, Wlk m x.cls c → Dv m is g ⟨c, x.ty⟩
  | 0, x, hN, _, _, _, _ => by omega
  | N + 1, x, hN, hx, h, c, hc => by
    have one : ∀ a, Dv m is g ⟨a, x.ty⟩ → ∀ b ∈ sups m a, exC m b = true → Dv m is g ⟨b, x.ty⟩ := fun a ha b hb hex => by
      cases ha with
      | @given q _ h1 h2 h3 => exact .given h1 (h2.trans (.step hb hex (.refl hex))) h3
      | @inst _ n l h1 h2 =>
        obtain ⟨y, hm, e1, e2, e3, e4⟩ := inst_of h1
        have hz := inst_kids hy (x := ⟨a, x.ty⟩) hx h1
        have hW := (hw y hm b (by rw [e1]; exact hb)).put hy (y.vars.zip (args x.ty))
        rw [show y.prs.map (putP (y.vars.zip (args x.ty))) = l from e4.symm] at hW
        rw [show putP (y.vars.zip (args x.ty)) ⟨b, hdTy y⟩ = ⟨b, x.ty⟩ by unfold putP; rw [hdTy_sub (hnd y hm) e2 e3]] at hW
        refine hW.cut fun q hq c hc => ?_
        have := (hz.2.2 q hq)
        exact Dv.sup hy hnd hw N q (by have h := this.2; simp only at h; omega) this.1 (h2 q hq) c hc
    obtain ⟨xc, xt⟩ := x
    simp only at one hc h ⊢
    clear hN hx
    induction hc with
    | refl _ => exact h
    | step h1 h2 _ ih => exact ih (one _ h _ h1 h2)
/-- What holds where some are given, all of which hold where others are given, holds where these are. -/
theorem cut_law {m : List Cl} {is : List In} (hy : ∀ y ∈ is, WIn y) (hnd : ∀ y ∈ is, y.vars.Nodup) (hw : Whl m is) {g L : List PR} (hn : ∀ q ∈ L, nA q.ty) (hL : ∀ q ∈ L, Dv m is g q) {x : PR} (h : Dv m is L x) : Dv m is g x :=
  h.cut fun q hq c hc => Dv.sup hy hnd hw (q.ty.sz + 1) q (by omega) (hn q hq) (hL q hq) c hc
end Go.Proofs.YtkhnjmbgkakngaaDoor
