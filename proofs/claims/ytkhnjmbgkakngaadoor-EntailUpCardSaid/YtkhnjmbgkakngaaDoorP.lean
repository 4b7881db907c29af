/- Evidence: what By tells checks; checks with more given, and with types put in. Plain Lean, no program. -/
import Derived.Test.YtkhnjmbgkakngaaDoorO
set_option linter.unusedSimpArgs false
set_option linter.unusedVariables false
namespace Go.Proofs.YtkhnjmbgkakngaaDoor
open Go Fp
set_option maxRecDepth 10000
set_option linter.unusedVariables false
set_option linter.unusedSimpArgs false

theorem allZ_to {f f' : PR → Ev → Bool} (T : PR → PR) : ∀ {l : List PR} {ks : List Ev}, allZ f l ks = true → (∀ p v, v ∈ ks → f p v = true → f' (T p) v = true) → allZ f' (l.map T) ks = true
  | [], [], _, _ => rfl
  | p :: l, v :: ks, h, hf => by
    rw [allZ, Bool.and_eq_true] at h
    rw [List.map_cons, allZ, Bool.and_eq_true]
    exact ⟨hf p v List.mem_cons_self h.1, allZ_to T h.2 fun p v hv => hf p v (List.mem_cons_of_mem _ hv)⟩
  | [], _ :: _, h, _ => by simp [allZ] at h
  | _ :: _, [], h, _ => by simp [allZ] at h
/-- What checks is of the class. -/
theorem chk_cls {m : List Cl} {is : List In} {g : List PR} : ∀ {n : Nat} {x : PR} {v : Ev}, chkE m is g n x v = true → clsE m is g n v = x.cls
  | 0, _, _, h => by simp [chkE] at h
  | n + 1, x, .mk f k ks, h => by
    rw [chkE_succ] at h
    split at h
    · cases h
    · rename_i hc
      exact Classical.byContradiction fun hx => hc (.inr hx)
/-- Check, form by form. -/
theorem chk_iff {m : List Cl} {is : List In} {g : List PR} {n : Nat} {x : PR} {f k : Int} {ks : List Ev} : chkE m is g (n + 1) x (.mk f k ks) = true ↔ ¬ k < 0 ∧
    ((f = 1 ∧ k < g.length ∧ (g.getD k.toNat zPR).cls = x.cls ∧ ks = [] ∧ (g.getD k.toNat zPR).ty = x.ty) ∨
     (f = 3 ∧ k < is.length ∧ (is.getD k.toNat zIn).cls = x.cls ∧ ∃ l, needsE (is.getD k.toNat zIn) x.ty = some l ∧ l.length = ks.length ∧ allZ (chkE m is g n) l ks = true) ∨
     (f = 2 ∧ ∃ v, ks = [v] ∧ supAt m (clsE m is g n v) k = some x.cls ∧ chkE m is g n ⟨clsE m is g n v, x.ty⟩ v = true)) := by
  rw [chkE_succ]
  constructor
  · intro h
    split at h
    · cases h
    · rename_i hc
      rw [not_or] at hc
      obtain ⟨h1, h2⟩ := hc
      have h1 : tldE m is g n (.mk f k ks) = true := by simpa using h1
      have h2 : clsE m is g (n + 1) (.mk f k ks) = x.cls := by simpa using h2
      obtain ⟨h0, hf⟩ := tld_of h1
      rw [clsE_succ, if_neg h0] at h2
      refine ⟨h0, ?_⟩
      rcases hf with ⟨e, hk⟩ | ⟨e, hk⟩ | ⟨e, v, hv, hs⟩
      · rw [if_pos ⟨e, hk⟩] at h2
        rw [if_pos e, Bool.and_eq_true] at h
        exact .inl ⟨e, hk, h2, List.eq_nil_of_length_eq_zero (of_decide_eq_true h.1), of_decide_eq_true h.2⟩
      · rw [if_neg (by omega), if_pos ⟨e, hk⟩] at h2
        rw [if_neg (by omega), if_neg (by omega)] at h
        refine .inr (.inl ⟨e, hk, h2, ?_⟩)
        split at h
        · rename_i l hl
          rw [Bool.and_eq_true] at h
          exact ⟨l, hl, of_decide_eq_true h.1, h.2⟩
        · cases h
      · subst hv
        rw [if_neg (by omega), if_neg (by omega), if_pos e] at h2
        rw [if_neg (by omega), if_pos e] at h
        refine .inr (.inr ⟨e, v, rfl, ?_, h⟩)
        obtain ⟨c, hc⟩ := Option.isSome_iff_exists.1 hs
        simp only [hc, Option.getD_some] at h2
        rw [hc, h2]
  · rintro ⟨h0, ⟨e, hk, hc, hv, ht⟩ | ⟨e, hk, hc, l, hl, hle, ha⟩ | ⟨e, v, hv, hs, hch⟩⟩
    · have h1 : tldE m is g n (.mk f k ks) = true := by rw [tldE_eq, if_neg h0, if_pos e]; exact decide_eq_true hk
      have h2 : clsE m is g (n + 1) (.mk f k ks) = x.cls := by rw [clsE_succ, if_neg h0, if_pos ⟨e, hk⟩]; exact hc
      rw [if_neg (by simp [h1, h2]), if_pos e, hv, ht]; simp
    · have h1 : tldE m is g n (.mk f k ks) = true := by rw [tldE_eq, if_neg h0, if_neg (by omega), if_pos e]; exact decide_eq_true hk
      have h2 : clsE m is g (n + 1) (.mk f k ks) = x.cls := by rw [clsE_succ, if_neg h0, if_neg (by omega), if_pos ⟨e, hk⟩]; exact hc
      rw [if_neg (by simp [h1, h2]), if_neg (by omega), if_neg (by omega), hl]
      simp [hle, ha]
    · subst hv
      have h1 : tldE m is g n (.mk f k [v]) = true := by rw [tldE_eq, if_neg h0, if_neg (by omega), if_neg (by omega), if_pos e]; simp [hs]
      have h2 : clsE m is g (n + 1) (.mk f k [v]) = x.cls := by rw [clsE_succ, if_neg h0, if_neg (by omega), if_neg (by omega), if_pos e]; simp [hs]
      rw [if_neg (by simp [h1, h2]), if_neg (by omega), if_pos e]
      exact hch
/-- With others given, among them those that were, with types put in. -/
theorem chk_to {m : List Cl} {is : List In} {g g' : List PR} (F : Tp → Tp) (hF : ∀ y ∈ is, ∀ t l, needsE y t = some l → needsE y (F t) = some (l.map fun q => ⟨q.cls, F q.ty⟩))
    (hg : ∀ k : Nat, k < g.length → k < g'.length ∧ g'.getD k zPR = ⟨(g.getD k zPR).cls, F (g.getD k zPR).ty⟩) : ∀ (n : Nat) (x : PR) (v : Ev), chkE m is g n x v = true → chkE m is g' n ⟨x.cls, F x.ty⟩ v = true
  | 0, _, _, h => by simp [chkE] at h
  | n + 1, x, .mk f k ks, h => by
    obtain ⟨h0, h⟩ := chk_iff.1 h
    refine chk_iff.2 ⟨h0, ?_⟩
    rcases h with ⟨e, hk, hc, hv, ht⟩ | ⟨e, hk, hc, l, hl, hle, ha⟩ | ⟨e, v, hv, hs, hch⟩
    · obtain ⟨h1, h2⟩ := hg k.toNat (by omega)
      exact .inl ⟨e, by omega, by rw [h2]; exact hc, hv, by rw [h2]; show F _ = F _; rw [ht]⟩
    · refine .inr (.inl ⟨e, hk, hc, _, hF _ ?_ _ _ hl, by rw [List.length_map]; exact hle, allZ_to _ ha fun p v _ hp => chk_to F hF hg n p v hp⟩)
      rw [List.getD_eq_getElem?_getD, List.getElem?_eq_getElem (show k.toNat < is.length by omega)]
      exact List.getElem_mem _
    · have := chk_to F hF hg n _ v hch
      have hc := chk_cls this
      refine .inr (.inr ⟨e, v, hv, by rw [hc]; exact hs, by rw [hc]; exact this⟩)
theorem chk_more {m : List Cl} {is : List In} {g : List PR} (more : List PR) (n : Nat) (x : PR) (v : Ev) (h : chkE m is g n x v = true) : chkE m is (g ++ more) n x v = true := by
  refine chk_to (F := id) (fun y _ t l hl => ?_) (fun k hk => ⟨by rw [List.length_append]; omega, ?_⟩) n x v h
  · have e : (l.map fun q => (⟨q.cls, id q.ty⟩ : PR)) = l := List.map_id' l
    rw [e]; exact hl
  · rw [List.getD_eq_getElem?_getD, List.getElem?_append_left hk, ← List.getD_eq_getElem?_getD]; rfl
theorem chk_put {m : List Cl} {is : List In} (hy : ∀ y ∈ is, WIn y) {g : List PR} (ps : Env') (n : Nat) (x : PR) (v : Ev) (h : chkE m is g n x v = true) : chkE m is (g.map (putP ps)) n (putP ps x) v = true := by
  refine chk_to (F := (sub · ps)) (fun y hm t l hl => needs_sub (hy y hm) t ps hl) (fun k hk => ⟨by rw [List.length_map]; exact hk, ?_⟩) n x v h
  rw [List.getD_eq_getElem?_getD, List.getElem?_map, List.getD_eq_getElem?_getD, List.getElem?_eq_getElem hk]; rfl

/-! ### what By tells -/
theorem firstI_at {f : ByteArray → Option (List Int)} : ∀ {xs : List ByteArray} {i : Nat} {l : List Int}, firstI f i xs = some l → ∃ (j : Nat) (h : j < xs.length) (p : List Int), l = ((i + j : Nat) : Int) :: p ∧ f xs[j] = some p
  | [], _, _, h => by simp [firstI] at h
  | x :: xs, i, l, h => by
    rw [firstI] at h
    split at h
    · rename_i p hp
      injection h with h
      exact ⟨0, by simp, p, h.symm, hp⟩
    · obtain ⟨j, hj, p, h1, h2⟩ := firstI_at h
      exact ⟨j + 1, by simp; omega, p, by rw [h1, show i + 1 + j = i + (j + 1) by omega], h2⟩
/-- Evidence checks, whatever the fuel that lasts. -/
def Chk (m : List Cl) (is : List In) (g : List PR) (x : PR) (v : Ev) : Prop := ∀ N, Dp N v → chkE m is g N x v = true
theorem supAt_sups {m : List Cl} {a : ByteArray} {j : Nat} (h : j < (sups m a).length) : supAt m a (j : Nat) = some (sups m a)[j] := by
  have h0 := List.getElem?_eq_getElem h
  generalize (sups m a)[j] = b at h0
  unfold supAt
  unfold sups at h h0
  cases hl : lookC m a with
  | none => rw [hl] at h; simp at h
  | some c =>
    simp only [hl] at h h0 ⊢
    rw [if_pos (by omega), Int.toNat_natCast, List.getD_eq_getElem?_getD, h0]; rfl
theorem chk_wrap {m : List Cl} {is : List In} {g : List PR} {to : ByteArray} {t : Tp} : ∀ (n : Nat) (a : ByteArray) (l : List Int) (v : Ev), pathD m to n a = some l → Chk m is g ⟨a, t⟩ v → Chk m is g ⟨to, t⟩ (wrapV v l)
  | 0, a, l, v, h, hv => by
    rw [pathD] at h
    split at h
    · rename_i hc; obtain ⟨h1, h2⟩ := hc; subst h2; injection h with h; subst h; exact hv
    · cases h
  | n + 1, a, l, v, h, hv => by
    rw [pathD] at h
    obtain ⟨j, hj, p, e, hp⟩ := firstI_at h
    subst e
    rw [Nat.zero_add]
    refine chk_wrap n _ p (.mk 2 (j : Nat) [v]) hp ?_
    intro N hN
    cases N with
    | zero => exact hN.elim
    | succ N =>
      have hN : Dp N v := hN v (by simp)
      have h1 := hv N hN
      have h2 := chk_cls h1
      refine chk_iff.2 ⟨by omega, .inr (.inr ⟨rfl, v, rfl, ?_, by rw [h2]; exact h1⟩)⟩
      rw [h2]
      exact supAt_sups hj
theorem pathB_pathD {m : List Cl} {a b : ByteArray} (h : (pathB m a b).1 = true) : ∃ n, pathD m b n a = some (pathB m a b).2 := by
  rw [pathB_eq] at h ⊢
  unfold pathsD at h ⊢
  obtain ⟨l, h⟩ := Option.isSome_iff_exists.1 h
  obtain ⟨n, _, hn⟩ := List.exists_of_findSome?_eq_some h
  exact ⟨n, by rw [h]; exact hn⟩
theorem byG_chk {m : List Cl} {is : List In} {g0 : List PR} {x : PR} : ∀ (g : List PR) (i : Nat) (v : Ev), byG m x i g = some v → (∀ k, k < g.length → i + k < g0.length ∧ g0.getD (i + k) zPR = g.getD k zPR) → Chk m is g0 x v
  | [], _, _, h, _ => by simp [byG] at h
  | q :: g, i, v, h, hg => by
    rw [byG] at h
    split at h
    · rename_i hc
      injection h with h
      subst h
      rw [Bool.and_eq_true, decide_eq_true_eq] at hc
      obtain ⟨n, hn⟩ := pathB_pathD hc.1
      refine chk_wrap n q.cls _ _ hn ?_
      intro N hN
      cases N with
      | zero => exact hN.elim
      | succ N =>
        obtain ⟨h1, h2⟩ := hg 0 (by simp)
        rw [Nat.add_zero] at h1 h2
        have h3 : g0.getD i zPR = q := h2
        exact chk_iff.2 ⟨by omega, .inl ⟨rfl, by omega, by rw [Int.toNat_natCast, h3], rfl, by rw [Int.toNat_natCast, h3]; exact hc.2⟩⟩
    · refine byG_chk g (i + 1) v h fun k hk => ?_
      obtain ⟨h1, h2⟩ := hg (k + 1) (by simp; omega)
      rw [show i + 1 + k = i + (k + 1) by omega]
      exact ⟨h1, h2⟩
theorem kidsO_allZ {f : PR → Option Ev} {F : PR → Ev → Bool} : ∀ {l : List PR} {ks : List Ev}, kidsO f l = some ks → (∀ q v, v ∈ ks → f q = some v → F q v = true) → l.length = ks.length ∧ allZ F l ks = true
  | [], ks, h, _ => by injection h with h; subst h; exact ⟨rfl, rfl⟩
  | q :: l, ks, h, hF => by
    rw [kidsO] at h
    split at h
    · cases h
    · rename_i v hv
      obtain ⟨ks', h1, h2⟩ := Option.map_eq_some_iff.1 h
      subst h2
      obtain ⟨h3, h4⟩ := kidsO_allZ h1 fun q v hm => hF q v (List.mem_cons_of_mem _ hm)
      refine ⟨by simp [h3], ?_⟩
      rw [allZ, hF q v List.mem_cons_self hv, h4]; rfl
theorem instE_at {is : List In} {x : PR} {n : Nat} {l : List PR} (h : instE is x = some (n, l)) : ∃ hn : n < is.length, is[n].cls = x.cls ∧ needsE is[n] x.ty = some l ∧ instI is x.cls (spHd x.ty).nam = some n := by
  unfold instE at h
  split at h
  · split at h
    · rename_i n' hn
      obtain ⟨h1, h2, h3⟩ := instI_lt hn
      split at h
      · rename_i y hyy
        obtain ⟨l', h4, h5⟩ := Option.map_eq_some_iff.1 h
        injection h5 with h5 h6
        subst h5; subst h6
        have e : y = is[n'] := by rw [List.getElem?_eq_getElem h1] at hyy; injection hyy with hyy; exact hyy.symm
        exact ⟨h1, h2, e ▸ h4, hn⟩
      · cases h
    · cases h
  · cases h
/-- What By tells checks. -/
theorem byE_chk {m : List Cl} {is : List In} {g : List PR} : ∀ (n : Nat) (x : PR) (v : Ev), byE m is g n x = some v → Chk m is g x v
  | 0, x, v, h => by simp [byE] at h
  | n + 1, x, v, h => by
    rw [byE] at h
    split at h
    · rename_i v' hG
      injection h with h; subst h
      exact byG_chk g 0 _ hG fun k hk => by rw [Nat.zero_add]; exact ⟨hk, rfl⟩
    · split at h
      · cases h
      · rename_i k l hE
        obtain ⟨ks, h4, h5⟩ := Option.map_eq_some_iff.1 h
        subst h5
        obtain ⟨hn, h1, h2, _⟩ := instE_at hE
        have e : is.getD k zIn = is[k] := by rw [List.getD_eq_getElem?_getD, List.getElem?_eq_getElem hn]; rfl
        intro N hN
        cases N with
        | zero => exact hN.elim
        | succ N =>
          obtain ⟨h6, h7⟩ := kidsO_allZ (F := chkE m is g N) h4 fun q v hv hq => byE_chk n q v hq N (hN v hv)
          exact chk_iff.2 ⟨by omega, .inr (.inl ⟨rfl, by omega, by rw [Int.toNat_natCast, e]; exact h1, l, by rw [Int.toNat_natCast, e]; exact h2, h6, h7⟩)⟩
theorem dp_mono : ∀ (n : Nat) (v : Ev), Dp n v → ∀ k, n ≤ k → Dp k v
  | 0, v, h, _, _ => h.elim
  | n + 1, .mk f i ks, h, 0, hk => by omega
  | n + 1, .mk f i ks, h, k + 1, hk => fun x hx => dp_mono n x (h x hx) k (by omega)
mutual
theorem ex_dp : ∀ (v : Ev), ∃ N, Dp N v
  | .mk f i ks => by
    obtain ⟨N, hN⟩ := ex_dps ks
    exact ⟨N + 1, hN⟩
theorem ex_dps : ∀ (ks : List Ev), ∃ N, ∀ x ∈ ks, Dp N x
  | [] => ⟨0, fun x hx => by simp at hx⟩
  | v :: ks => by
    obtain ⟨N, hN⟩ := ex_dp v
    obtain ⟨M, hM⟩ := ex_dps ks
    refine ⟨max N M, fun x hx => ?_⟩
    rcases List.mem_cons.1 hx with rfl | hx
    · exact dp_mono N _ hN _ (Nat.le_max_left _ _)
    · exact dp_mono M _ (hM x hx) _ (Nat.le_max_right _ _)
end
end Go.Proofs.YtkhnjmbgkakngaaDoor

namespace Go.Proofs.YtkhnjmbgkakngaaDoor
open Go Fp
set_option maxRecDepth 10000
set_option linter.unusedVariables false
set_option linter.unusedSimpArgs false

/-! ### classes above -/
theorem foldl_sub {F : List ByteArray → ByteArray → List ByteArray} (hF : ∀ t x, ∀ y ∈ t, y ∈ F t x) : ∀ (xs t : List ByteArray), ∀ y ∈ t, y ∈ xs.foldl F t
  | [], t, y, h => h
  | x :: xs, t, y, h => foldl_sub hF xs _ y (hF t x y h)
theorem abv_sub (m : List Cl) : ∀ (n : Nat) (s : ByteArray) (t : List ByteArray), ∀ y ∈ t, y ∈ abv m n s t
  | 0, _, _, _, h => h
  | n + 1, s, t, y, h => by
    rw [abv]
    split
    · exact h
    · exact foldl_sub (fun t x => abv_sub m n x t) _ _ y (List.mem_append_left _ h)
theorem abv_wlk (m : List Cl) : ∀ (n : Nat) (s : ByteArray) (t : List ByteArray), ∀ y ∈ abv m n s t, y ∈ t ∨ Wlk m s y
  | 0, _, _, _, h => .inl h
  | n + 1, s, t, y, h => by
    rw [abv] at h
    split at h
    · exact .inl h
    · rename_i hc
      simp only [Bool.or_eq_true, Bool.not_eq_true', not_or, Bool.not_eq_false] at hc
      have go : ∀ (xs t : List ByteArray), (∀ x ∈ xs, x ∈ sups m s) → y ∈ xs.foldl (fun t x => abv m n x t) t → y ∈ t ∨ Wlk m s y := by
        intro xs
        induction xs with
        | nil => exact fun t _ h => .inl h
        | cons x xs ih =>
          intro t hx h
          rcases ih (abv m n x t) (fun x hm => hx x (List.mem_cons_of_mem _ hm)) h with h | h
          · rcases abv_wlk m n x t y h with h | h
            · exact .inl h
            · exact .inr (.step (hx x List.mem_cons_self) h.ex.1 h)
          · exact .inr h
      rcases go _ _ (fun x h => h) h with h | h
      · rcases List.mem_append.1 h with h | h
        · exact .inl h
        · simp at h; subst h; exact .inr (.refl hc.1)
      · exact .inr h
theorem unseen_le {m : List Cl} {s t : List ByteArray} (h : ∀ y ∈ s, y ∈ t) : unseen m t ≤ unseen m s := by
  unfold unseen
  induction m with
  | nil => exact Nat.le_refl _
  | cons c m ih =>
    simp only [List.filter_cons]
    by_cases h1 : memb c.nm s = true
    · have h2 : memb c.nm t = true := memb_iff.2 (h _ (memb_iff.1 h1))
      simp [h1, h2]; exact ih
    · by_cases h2 : memb c.nm t = true
      · simp [h1, h2]; omega
      · simp [h1, h2]; exact ih
/-- What is new is closed. -/
theorem abv_full (m : List Cl) : ∀ (n : Nat) (s : ByteArray) (t : List ByteArray), unseen m t < n → (exC m s = true → s ∈ abv m n s t) ∧ ∀ y ∈ abv m n s t, y ∈ t ∨ ∀ z ∈ sups m y, exC m z = true → z ∈ abv m n s t
  | 0, s, t, h => by omega
  | n + 1, s, t, h => by
    rw [abv]
    split
    · rename_i hc
      simp only [Bool.or_eq_true, Bool.not_eq_true'] at hc
      refine ⟨fun he => ?_, fun y hy => .inl hy⟩
      rcases hc with hc | hc
      · rw [he] at hc; cases hc
      · exact memb_iff.1 hc
    · rename_i hc
      simp only [Bool.or_eq_true, Bool.not_eq_true', not_or, Bool.not_eq_false] at hc
      have hlt := unseen_lt (m := m) (sn := t) hc.1 (fun hm => hc.2 (memb_iff.2 hm))
      have go : ∀ (xs t' : List ByteArray), unseen m t' < n → (∀ x ∈ xs, exC m x = true → x ∈ xs.foldl (fun t x => abv m n x t) t') ∧ ∀ y ∈ xs.foldl (fun t x => abv m n x t) t', y ∈ t' ∨ ∀ z ∈ sups m y, exC m z = true → z ∈ xs.foldl (fun t x => abv m n x t) t' := by
        intro xs
        induction xs with
        | nil => exact fun t' _ => ⟨fun x hx => by simp at hx, fun y hy => .inl hy⟩
        | cons x xs ih =>
          intro t' ht
          obtain ⟨h1, h2⟩ := abv_full m n x t' ht
          obtain ⟨h3, h4⟩ := ih (abv m n x t') (Nat.lt_of_le_of_lt (unseen_le (abv_sub m n x t')) ht)
          have hsub : ∀ y ∈ abv m n x t', y ∈ xs.foldl (fun t x => abv m n x t) (abv m n x t') := foldl_sub (fun t x => abv_sub m n x t) xs _
          rw [List.foldl_cons]
          refine ⟨fun w hw he => ?_, fun y hy => ?_⟩
          · rcases List.mem_cons.1 hw with rfl | hw
            · exact hsub _ (h1 he)
            · exact h3 w hw he
          · rcases h4 y hy with h | h
            · rcases h2 y h with h | h
              · exact .inl h
              · exact .inr fun z hz he => hsub z (h z hz he)
            · exact .inr h
      obtain ⟨h1, h2⟩ := go (sups m s) (t ++ [s]) (by omega)
      have hs : s ∈ (sups m s).foldl (fun t x => abv m n x t) (t ++ [s]) := foldl_sub (fun t x => abv_sub m n x t) _ _ _ (by simp)
      refine ⟨fun _ => hs, fun y hy => ?_⟩
      rcases h2 y hy with h | h
      · rcases List.mem_append.1 h with h | h
        · exact .inl h
        · simp at h; subst h; exact .inr h1
      · exact .inr h
theorem abv_iff {m : List Cl} {s y : ByteArray} : y ∈ abv m (m.length + 1) s [] ↔ Wlk m s y := by
  obtain ⟨h1, h2⟩ := abv_full m (m.length + 1) s [] (by have : unseen m [] ≤ m.length := List.length_filter_le _ _; omega)
  constructor
  · intro h
    exact (abv_wlk m _ s [] y h).resolve_left (by simp)
  · intro h
    have go : ∀ {a c : ByteArray}, Wlk m a c → a ∈ abv m (m.length + 1) s [] → c ∈ abv m (m.length + 1) s [] := by
      intro a c h
      induction h with
      | refl _ => exact fun h => h
      | step hb he _ ih => exact fun h => ih ((h2 _ h).resolve_left (by simp) _ hb he)
    exact go h (h1 h.ex.1)

/-! ### one evidence of instances alone -/
mutual
def insB : Ev → Bool
  | .mk f _ ks => insBs ks && decide (f = 3)
def insBs : List Ev → Bool
  | [] => true
  | v :: ks => insB v && insBs ks
end
theorem insBs_all : ∀ {ks : List Ev}, insBs ks = true → ∀ v ∈ ks, insB v = true
  | v :: ks, h, w, hw => by
    rw [insBs, Bool.and_eq_true] at h
    rcases List.mem_cons.1 hw with rfl | hw
    · exact h.1
    · exact insBs_all h.2 w hw
/-- No two instances are of one class and one constructor. -/
def UnI (is : List In) : Prop := ∀ (i : Nat) (h : i < is.length), instI is is[i].cls is[i].con = some i
theorem findIdx_app {α : Type} {p : α → Bool} {l r : List α} {i : Nat} (h : l.findIdx? p = some i) : (l ++ r).findIdx? p = some i := by
  rw [List.findIdx?_append, h]; rfl
theorem uni_snoc {is : List In} {y : In} (h : UnI is) (hy : instI is y.cls y.con = none) : UnI (is ++ [y]) := fun i hi => by
  rw [List.length_append, List.length_singleton] at hi
  by_cases h1 : i < is.length
  · rw [List.getElem_append_left h1]
    exact findIdx_app (h i h1)
  · have e : i = is.length := by omega
    subst e
    rw [List.getElem_append_right (Nat.le_refl _)]
    simp only [Nat.sub_self, List.getElem_cons_zero]
    unfold instI at hy ⊢
    rw [List.findIdx?_append, hy]
    simp [List.findIdx?_cons, instP]
theorem insJ_uni {is : List In} {x : In} {up : List ByteArray} (h : UnI is) : ∀ j, UnI (insJ is x up j)
  | 0 => h
  | j + 1 => by
    rw [insJ]
    split
    · exact insJ_uni h j
    · rename_i hc
      exact uni_snoc (insJ_uni h j) (by simpa [subI] using hc)
theorem isE_uni (l : List Int) (cs : List Cl) : ∀ t, UnI (isE l cs t)
  | 0 => fun i h => by simp [isE] at h
  | t + 1 => insJ_uni (isE_uni l cs t) _
theorem world_uni {l : List Int} (hl : l.length < 9223372036854775808) (hr : ∀ x ∈ l, InR x) : ∃ cs is, GoodW cs is ∧ UnI is ∧ ACall Tryd.prog n_fugueref12_World [.sl (eIs l)] (eProg cs is) := by
  obtain ⟨cs, is, hcs, his, hW⟩ := world_ok hl hr
  have h6 : pk (l.take 6) 0 % 6 < 6 := Nat.mod_lt _ (by decide)
  have hlen : cs.length ≤ 5 := by rw [hcs, csE_len]; omega
  refine ⟨cs, is, ⟨?_, hlen, fun c hc => (csE_mem (hcs ▸ hc)).1, fun c hc => (csE_mem (hcs ▸ hc)).2, ?_, ?_⟩, his ▸ isE_uni l cs _, hW⟩
  · rw [hcs, csE_nm _ _ (by omega)]
    exact nms5_nodup.sublist (List.take_sublist _ _)
  · have h1 := (isE_ok l cs (min 16 l.length - 6)).2
    have h2 : (min 16 l.length - 6) * cs.length ≤ 10 * 5 := Nat.mul_le_mul (by omega) hlen
    rw [his]; omega
  · rw [his]; exact (isE_ok l cs _).1
theorem allZ_kids {f : PR → Option Ev} {F : PR → Ev → Bool} : ∀ {l : List PR} {ks : List Ev}, l.length = ks.length → allZ F l ks = true → (∀ q ∈ l, ∀ v ∈ ks, F q v = true → f q = some v) → kidsO f l = some ks
  | [], [], _, _, _ => rfl
  | q :: l, v :: ks, hl, h, hF => by
    rw [allZ, Bool.and_eq_true] at h
    rw [kidsO, hF q List.mem_cons_self v List.mem_cons_self h.1, allZ_kids (by simpa using hl) h.2 fun q hq v hv => hF q (List.mem_cons_of_mem _ hq) v (List.mem_cons_of_mem _ hv)]; rfl
/-- Where nothing is given, evidence of instances alone is what By tells. -/
theorem ins_by {m : List Cl} {is : List In} (hy : ∀ y ∈ is, WIn y) (hu : UnI is) : ∀ (N : Nat) (x : PR) (v : Ev), nA x.ty → insB v = true → chkE m is [] N x v = true → ∀ n, x.ty.sz < n → byE m is [] n x = some v
  | 0, _, _, _, _, h, _, _ => by simp [chkE] at h
  | N + 1, x, .mk f k ks, hx, hi, h, 0, hn => by omega
  | N + 1, x, .mk f k ks, hx, hi, h, n + 1, hn => by
    rw [insB, Bool.and_eq_true, decide_eq_true_eq] at hi
    obtain ⟨hi, e3⟩ := hi
    obtain ⟨h0, h⟩ := chk_iff.1 h
    rcases h with ⟨e, _⟩ | ⟨e, hk, hc, l, hl, hle, ha⟩ | ⟨e, _⟩
    · omega
    · have hk' : k.toNat < is.length := by omega
      rw [List.getD_eq_getElem?_getD, List.getElem?_eq_getElem hk'] at hc hl
      simp only [Option.getD_some] at hc hl
      have hI := hu k.toNat hk'
      have hcon : (spHd x.ty).form = 3 ∧ (spHd x.ty).nam = is[k.toNat].con := by
        unfold needsE at hl
        split at hl
        · rename_i h; exact ⟨h.1, h.2.1⟩
        · cases hl
      have hE : instE is x = some (k.toNat, l) := by
        unfold instE
        rw [if_pos hcon.1, hcon.2, ← hc, hI]
        simp only [List.getElem?_eq_getElem hk', hl]
        rfl
      have hks := (inst_kids hy hx hE).2.2
      have hK := allZ_kids (f := byE m is [] n) hle ha fun q hq v hv hF => ins_by hy hu N q v (hks q hq).1 (insBs_all hi v hv) hF n (by have := (hks q hq).2; omega)
      rw [byE]
      simp only [byG, hE, hK, Option.map_some]
      rw [Int.toNat_of_nonneg (by omega), e3]
    · omega
/-- What By tells where nothing is given is of instances alone. -/
theorem kidsO_ins {f : PR → Option Ev} : ∀ {l : List PR} {ks : List Ev}, kidsO f l = some ks → (∀ q v, f q = some v → insB v = true) → insBs ks = true
  | [], ks, h, _ => by injection h with h; subst h; rfl
  | q :: l, ks, h, hF => by
    rw [kidsO] at h
    split at h
    · cases h
    · rename_i v hv
      obtain ⟨ks', h1, h2⟩ := Option.map_eq_some_iff.1 h
      subst h2
      rw [insBs, hF q v hv, kidsO_ins h1 hF]; rfl
theorem by_ins {m : List Cl} {is : List In} : ∀ (n : Nat) (x : PR) (v : Ev), byE m is [] n x = some v → insB v = true
  | 0, x, v, h => by simp [byE] at h
  | n + 1, x, v, h => by
    rw [byE] at h
    simp only [byG] at h
    split at h
    · cases h
    · rename_i k l hE
      obtain ⟨ks, h4, h5⟩ := Option.map_eq_some_iff.1 h
      subst h5
      rw [insB, kidsO_ins h4 (fun q v hq => by_ins n q v hq)]; simp
end Go.Proofs.YtkhnjmbgkakngaaDoor
