/- A part of the proof of a given statement: contracts of functions of the program, under no condition but those that each states. -/
import Derived.Test.YtocglbflmkadeaaDoorL22
set_option linter.unusedSimpArgs false
set_option linter.unusedVariables false
namespace Go.Proofs.YtocglbflmkadeaaDoor
open Go Fp
set_option maxRecDepth 100000
set_option maxHeartbeats 8000000

/-- Where a name was given last; -1: nowhere. -/
def pl (l : List ByteArray) (s : ByteArray) : Int := if memb s l then (l.length : Int) - 1 - ixI l.reverse s else -1

theorem wrap_sub1 {n k : Nat} (h : k < n) (hn : n < 9223372036854775808) : IntKind.i64.wrap (IntKind.i64.wrap ((n : Int) - 1) - (k : Int)) = ((n - 1 - k : Nat) : Int) := by
  have e1 : (n : Int) - 1 = ((n - 1 : Nat) : Int) := by omega
  rw [e1, wrap_nat (by omega), show ((n - 1 : Nat) : Int) - (k : Int) = ((n - 1 - k : Nat) : Int) by omega, wrap_nat (by omega)]

theorem place_ok {l : List ByteArray} {s : ByteArray} (hl : l.length < 9223372036854775807) : ACall Tryd.prog n_types_place [.sl (eSs l), .lit (.string s)] (.lit (.int .i64 (pl l s))) := by
  refine acall_of_wc ttok mixed Tryd.func65 rfl (by rfl) (Nat.le_of_ble_eq_true rfl) (by kernel_rfl) ?_
  have hlen : (eSs l).length = l.length := by simp [eSs]
  have hrl : l.reverse.length = l.length := by simp
  refine ⟨{k : Nat // k ≤ l.length ∧ ∀ j, j < k → l.reverse[j]? ≠ some s}, fun k => { vs := [(0, .v (.sl (eSs l))), (1, .v (.lit (.string s))), (8, .v (.lit (.int .i64 ((eSs l).length : Nat)))), (9, .v (.lit (.int .i64 (k.1 : Nat))))], ow := [] },
    fun k => l.length - k.1, ⟨0, Nat.zero_le _, fun j hj => absurd hj (by omega)⟩, ⟨⟨rfl, rfl, rfl, rfl, trivial⟩, trivial, rfl⟩, ?_⟩
  rintro ⟨k, hk, hn⟩
  refine ⟨fun h => ?_, fun h => ?_⟩
  · have h : k < l.length := by simp [hlen] at h; omega
    have ew : IntKind.i64.wrap (IntKind.i64.wrap (((eSs l).length : Nat) - 1) - (k : Int)) = ((l.length - 1 - k : Nat) : Int) := by rw [hlen]; exact wrap_sub1 h (by omega)
    have hi : l.length - 1 - k < l.length := by omega
    have hrev : l.reverse[k]'(by omega) = l[l.length - 1 - k] := by simp [List.getElem_reverse]
    refine ⟨.lit (.string l[l.length - 1 - k]), by rw [ew]; omega, by rw [ew]; exact getS hi, rfl, ?_⟩
    refine ⟨fun h2 => ?_, fun h2 => ?_⟩
    · have h2 : l[l.length - 1 - k] = s := of_decide_eq_true h2
      have hp : pl l s = ((l.length - 1 - k : Nat) : Int) := by
        rw [pl, memb_yes (h2 ▸ List.getElem_mem hi), if_pos rfl, ixI_at (l := l.reverse) (k := k) (by omega) (by rw [hrev, h2]) hn]
        omega
      rw [hp, ← ew]
      exact rfl
    · have h2 : l[l.length - 1 - k] ≠ s := of_decide_eq_false h2
      refine ⟨⟨k + 1, h, step_no (l := l.reverse) (by omega) (by rw [hrev]; exact h2) hn⟩, (show l.length - (k + 1) < l.length - k by omega), ⟨rfl, rfl, rfl, ?_, trivial⟩, trivial, rfl⟩
      exact congrArg (fun n => SV.v (AV.lit (Value.int .i64 n))) (wrap_succ (k := k) (by omega))
  · have h : k = l.length := by simp [hlen] at h; omega
    subst h
    have hp : pl l s = -1 := by
      rw [pl, memb_no (fun hm => not_mem_of (l := l.reverse) (by rw [hrl]; exact hn) (List.mem_reverse.2 hm))]; rfl
    rw [hp]
    exact rfl

/-- Two are the same, where names were given within each. -/
def smb : Tp → Tp → List ByteArray → List ByteArray → Bool
  | .all s a, .all r b, x, y => smb a b (x ++ [s]) (y ++ [r])
  | .var s, .var r, x, y => decide (pl x s = pl y r) && (decide (0 ≤ pl x s) || decide (s = r))
  | .app a b, .app c d, x, y => smb a c x y && smb b d x y
  | .con s, .con r, _, _ => decide (s = r)
  | .mt n, .mt m, _, _ => decide (n = m)
  | .no, .no, _, _ => true
  | _, _, _, _ => false

theorem fullSlice (l : List AV) : List.drop (Int.toNat 0) (List.take (Int.toNat ((l.length : Nat) : Int)) l) = l := by simp

theorem same_ok (N : Nat) : ∀ (a b : Tp) (x y : List ByteArray), a.sz ≤ N → x.length + N ≤ 4000000000 → y.length + N ≤ 4000000000 → ACall Tryd.prog n_types_same [eTy a, eTy b, .sl (eSs x), .sl (eSs y)] (.sb (smb a b x y)) := by
  induction N with
  | zero => intro a b x y h; have := sz_pos a; omega
  | succ N ih =>
    intro a b x y hs hx hy
    have hxl : (eSs x).length = x.length := by simp [eSs]
    have hyl : (eSs y).length = y.length := by simp [eSs]
    by_cases hform : a.form = b.form
    · cases a <;> cases b <;> try (simp [Tp.form] at hform; done)
      · refine acall_of_wc ttok mixed Tryd.func52 rfl (by rfl) (Nat.le_of_ble_eq_true rfl) (by kernel_rfl) ?_
        refine ⟨fun _ => ?_, fun h => (by cases h)⟩
        refine ⟨fun _ => ?_, fun h => (by cases h)⟩
        refine ⟨fun h => (by cases h), fun _ => ?_⟩
        refine ⟨fun h => (by cases h), fun _ => ?_⟩
        refine ⟨fun h => (by cases h), fun _ => ?_⟩
        refine ⟨fun h => (by simp at h), fun _ => ?_⟩
        refine ⟨{k : Nat // k ≤ 0}, fun k => { vs := [(97, .v (.lit (.int .i64 0))), (98, .v (.lit (.int .i64 0)))], ow := [] }, fun _ => 0, ⟨0, Nat.le_refl _⟩, ⟨⟨rfl, rfl, trivial⟩, trivial, rfl⟩, ?_⟩
        rintro ⟨k, hk⟩
        refine ⟨fun h => (by cases h), fun _ => ?_⟩
        exact rfl
      · rename_i n m
        refine acall_of_wc ttok mixed Tryd.func52 rfl (by rfl) (Nat.le_of_ble_eq_true rfl) (by kernel_rfl) ?_
        refine ⟨fun _ => ?_, fun h => (by cases h)⟩
        refine ⟨fun h => ?_, fun h => ?_⟩
        · have hnm : n = m := Classical.byContradiction fun e => by
            have h' : (!decide (n = m)) = false := h
            rw [decide_eq_false e] at h'; cases h'
          subst hnm
          have es : smb (.mt n) (.mt n) x y = true := by simp [smb]
          rw [es]
          refine ⟨fun h => (by cases h), fun _ => ?_⟩
          refine ⟨fun h => (by cases h), fun _ => ?_⟩
          refine ⟨fun h => (by cases h), fun _ => ?_⟩
          refine ⟨fun h => (by simp at h), fun _ => ?_⟩
          refine ⟨{k : Nat // k ≤ 0}, fun k => { vs := [(97, .v (.lit (.int .i64 0))), (98, .v (.lit (.int .i64 0)))], ow := [] }, fun _ => 0, ⟨0, Nat.le_refl _⟩, ⟨⟨rfl, rfl, trivial⟩, trivial, rfl⟩, ?_⟩
          rintro ⟨k, hk⟩
          refine ⟨fun h => (by cases h), fun _ => ?_⟩
          exact rfl
        · have es : smb (.mt n) (.mt m) x y = false := by
            have h' : (!decide (n = m)) = true := h
            simpa [smb] using h'
          rw [es]
          exact rfl
      · rename_i s r
        refine acall_of_wc ttok mixed Tryd.func52 rfl (by rfl) (Nat.le_of_ble_eq_true rfl) (by kernel_rfl) ?_
        refine ⟨fun _ => ?_, fun h => (by cases h)⟩
        refine ⟨fun _ => ?_, fun h => (by cases h)⟩
        refine ⟨fun h => (by cases h), fun _ => ?_⟩
        refine ⟨fun h => (by cases h), fun _ => ?_⟩
        refine ⟨fun _ => ?_, fun h => (by cases h)⟩
        refine .inl ⟨_, place_ok (l := x) (s := s) (by omega), ?_⟩
        refine .inl ⟨_, place_ok (l := y) (s := r) (by omega), ?_⟩
        refine ⟨fun h1 => ?_, fun h1 => ?_⟩
        · refine ⟨fun h2 => ?_, fun h2 => ?_⟩
          · have es : smb (.var s) (.var r) x y = decide (s = r) := by
              simp only [smb]; rw [h1, h2]; rfl
            rw [es]
            exact rfl
          · have es : smb (.var s) (.var r) x y = true := by
              simp only [smb]; rw [h1, h2]; rfl
            rw [es]
            exact rfl
        · have es : smb (.var s) (.var r) x y = false := by
            simp only [smb]; rw [h1]; rfl
          rw [es]
          exact rfl
      · rename_i s r
        refine acall_of_wc ttok mixed Tryd.func52 rfl (by rfl) (Nat.le_of_ble_eq_true rfl) (by kernel_rfl) ?_
        refine ⟨fun _ => ?_, fun h => (by cases h)⟩
        refine ⟨fun _ => ?_, fun h => (by cases h)⟩
        refine ⟨fun h => (by cases h), fun _ => ?_⟩
        refine ⟨fun h => (by cases h), fun _ => ?_⟩
        refine ⟨fun h => (by cases h), fun _ => ?_⟩
        refine ⟨fun h => ?_, fun h => ?_⟩
        · have es : smb (.con s) (.con r) x y = false := by
            have h' : (!decide (s = r)) = true := h
            simpa [smb] using h'
          rw [es]
          exact rfl
        · have es : smb (.con s) (.con r) x y = true := by
            have h' : (!decide (s = r)) = false := h
            simpa [smb] using h'
          rw [es]
          refine ⟨{k : Nat // k ≤ 0}, fun k => { vs := [(97, .v (.lit (.int .i64 0))), (98, .v (.lit (.int .i64 0)))], ow := [] }, fun _ => 0, ⟨0, Nat.le_refl _⟩, ⟨⟨rfl, rfl, trivial⟩, trivial, rfl⟩, ?_⟩
          rintro ⟨k, hk⟩
          refine ⟨fun h => (by cases h), fun _ => ?_⟩
          exact rfl
      · rename_i a1 a2 b1 b2
        simp only [Tp.sz] at hs
        have i1 := ih a1 b1 x y (by omega) (by omega) (by omega)
        have i2 := ih a2 b2 x y (by omega) (by omega) (by omega)
        refine acall_of_wc ttok mixed Tryd.func52 rfl (by rfl) (Nat.le_of_ble_eq_true rfl) (by kernel_rfl) ?_
        refine ⟨fun _ => ?_, fun h => (by cases h)⟩
        refine ⟨fun _ => ?_, fun h => (by cases h)⟩
        refine ⟨fun h => (by cases h), fun _ => ?_⟩
        refine ⟨fun h => (by cases h), fun _ => ?_⟩
        refine ⟨fun h => (by cases h), fun _ => ?_⟩
        refine ⟨fun h => (by simp [Tp.nam] at h), fun _ => ?_⟩
        refine ⟨{k : Nat // k = 0 ∨ (k = 1 ∧ smb a1 b1 x y = true) ∨ (k = 2 ∧ smb a1 b1 x y = true ∧ smb a2 b2 x y = true)}, fun k => { vs := [(2, .v (.sl (eSs x))), (3, .v (.sl (eSs y))), (4, .box 0 (eTy (.app a1 a2))), (5, .box 0 (eTy (.app b1 b2))), (97, .v (.lit (.int .i64 2))), (98, .v (.lit (.int .i64 (k.1 : Nat))))], ow := [] },
          fun k => 2 - k.1, ⟨0, .inl rfl⟩, ⟨⟨rfl, rfl, rfl, rfl, rfl, rfl, trivial⟩, trivial, rfl⟩, ?_⟩
        rintro ⟨k, rfl | ⟨rfl, h1⟩ | ⟨rfl, h1, h2⟩⟩
        · refine ⟨fun _ => ?_, fun h => (by cases h)⟩
          refine ⟨eTy a1, Int.le_refl 0, rfl, rfl, ?_⟩
          refine ⟨eTy b1, Int.le_refl 0, rfl, rfl, ?_⟩
          refine .inl ⟨_, i1, ?_⟩
          refine ⟨fun h => ?_, fun h => ?_⟩
          · have es : smb (.app a1 a2) (.app b1 b2) x y = false := by
              have h' : smb a1 b1 x y = false := by simpa using h
              simp [smb, h']
            rw [es]
            exact rfl
          · have h' : smb a1 b1 x y = true := by simpa using h
            exact ⟨⟨1, .inr (.inl ⟨rfl, h'⟩)⟩, (show 2 - 1 < 2 - 0 by omega), ⟨rfl, rfl, rfl, rfl, rfl, rfl, trivial⟩, trivial, rfl⟩
        · refine ⟨fun _ => ?_, fun h => (by cases h)⟩
          refine ⟨eTy a2, Int.natCast_nonneg 1, rfl, rfl, ?_⟩
          refine ⟨eTy b2, Int.natCast_nonneg 1, rfl, rfl, ?_⟩
          refine .inl ⟨_, i2, ?_⟩
          refine ⟨fun h => ?_, fun h => ?_⟩
          · have es : smb (.app a1 a2) (.app b1 b2) x y = false := by
              have h' : smb a2 b2 x y = false := by simpa using h
              simp [smb, h']
            rw [es]
            exact rfl
          · have h' : smb a2 b2 x y = true := by simpa using h
            exact ⟨⟨2, .inr (.inr ⟨rfl, h1, h'⟩)⟩, (show 2 - 2 < 2 - 1 by omega), ⟨rfl, rfl, rfl, rfl, rfl, rfl, trivial⟩, trivial, rfl⟩
        · refine ⟨fun h => (by cases h), fun _ => ?_⟩
          have es : smb (.app a1 a2) (.app b1 b2) x y = true := by simp [smb, h1, h2]
          rw [es]
          exact rfl
      · rename_i s a r b
        simp only [Tp.sz] at hs
        have i1 := ih a b (x ++ [s]) (y ++ [r]) (by omega) (by simp; omega) (by simp; omega)
        rw [← snocS, ← snocS] at i1
        have hfx := fullSlice (eSs x)
        have hfy := fullSlice (eSs y)
        rw [← hfx, ← hfy] at i1
        refine acall_of_wc ttok mixed Tryd.func52 rfl (by rfl) (Nat.le_of_ble_eq_true rfl) (by kernel_rfl) ?_
        refine ⟨fun _ => ?_, fun h => (by cases h)⟩
        refine ⟨fun _ => ?_, fun h => (by cases h)⟩
        refine ⟨fun h => (by cases h), fun _ => ?_⟩
        refine ⟨fun _ => ?_, fun h => (by cases h)⟩
        refine ⟨_, by decide, rfl, rfl, ?_⟩
        refine ⟨_, by decide, rfl, rfl, ?_⟩
        refine ⟨by decide, by omega, Int.le_refl _, rfl, .inl rfl, ?_⟩
        refine ⟨by rw [hfx, hxl]; simp; omega, by rw [hfx]; exact uniS _, uniS [_], ?_⟩
        refine ⟨by decide, by omega, Int.le_refl _, rfl, .inl rfl, ?_⟩
        refine ⟨by rw [hfy, hyl]; simp; omega, by rw [hfy]; exact uniS _, uniS [_], ?_⟩
        refine .inl ⟨_, i1, ?_⟩
        exact rfl
    · have es : smb a b x y = false := by cases a <;> cases b <;> first | rfl | exact absurd rfl hform
      rw [es]
      refine acall_of_wc ttok mixed Tryd.func52 rfl (by rfl) (Nat.le_of_ble_eq_true rfl) (by kernel_rfl) ?_
      refine ⟨fun h => ?_, fun _ => ?_⟩
      · have h' : (!decide (a.form = b.form)) = false := h
        rw [decide_eq_false hform] at h'; cases h'
      · exact rfl

theorem sameT_ok (a b : Tp) (h : a.sz < 1000000000) : ACall Tryd.prog n_types_Same [eTy a, eTy b] (.sb (smb a b [] [])) := by
  refine acall_of_wc ttok mixed Tryd.func26 rfl (by rfl) (Nat.le_of_ble_eq_true rfl) (by kernel_rfl) ?_
  refine .inl ⟨_, same_ok a.sz a b [] [] (Nat.le_refl _) (by simp; omega) (by simp; omega), ?_⟩
  exact rfl
end Go.Proofs.YtocglbflmkadeaaDoor
