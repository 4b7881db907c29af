/- A part of the proof of a given statement: contracts of functions of the program, under no condition but those that each states. -/
import Derived.Test.YtocglbflmkadeaaDoorL25
set_option linter.unusedSimpArgs false
set_option linter.unusedVariables false
namespace Go.Proofs.YtocglbflmkadeaaDoor
open Go Fp
set_option maxRecDepth 100000
set_option maxHeartbeats 8000000

/-- Constructors and numbers of a small world. -/
def Nm : Tp → Prop
  | .app a b => Nm a ∧ Nm b
  | .all _ a => Nm a
  | .con s => s ∈ small6
  | .mt n => ∃ k : Nat, n = (k : Int) ∧ k < 10
  | .var _ => True
  | .no => False
theorem good_nm {t : Tp} (h : good t) : Nm t := by
  induction t with
  | no => exact h
  | mt n => exact h
  | con s => exact h
  | var s => trivial
  | app a b iha ihb => exact ⟨iha h.1, ihb h.2⟩
  | all s a ih => exact ih h.2
theorem sub_nm (t : Tp) : ∀ ps : Env', Nm t → (∀ p ∈ ps, Nm p.2) → Nm (sub t ps) := by
  induction t with
  | var s =>
    intro ps _ h
    simp only [sub]
    cases hl : look s ps with
    | none => trivial
    | some u => exact h _ (look_mem hl)
  | app a b iha ihb => exact fun ps h1 h => ⟨iha ps h1.1 h, ihb ps h1.2 h⟩
  | all s a ih =>
    intro ps h1 h
    simp only [sub]
    split
    · exact ih _ h1 (fun p hp => by
        rcases List.mem_append.1 hp with hp | hp
        · exact h p (kept_mem hp)
        · simp at hp; subst hp; trivial)
    · exact ih _ h1 (fun p hp => h p (kept_mem hp))
  | _ => exact fun _ h _ => h

theorem low_size {K : Nat} {s : ByteArray} (h : Low K s) (hK : K ≤ 2600) : s.size ≤ 3 := by
  obtain ⟨n, hn, rfl⟩ := h
  unfold lett
  split
  · rw [sz1]; omega
  · rw [ByteArray.size_append, sz1]
    have := dcm_size 2 (n / 26) (by omega) (by decide)
    omega

/-- A type without names, as a text. -/
def nl : Tp → List ByteArray → ByteArray
  | .mt n, _ => ⟨#[63]⟩ ++ dcm n.toNat
  | .var s, x => if memb s x then ⟨#[35]⟩ ++ dcm (ixN x.reverse s) else ⟨#[39]⟩ ++ s
  | .con s, _ => s
  | .all s a, x => (⟨#[91]⟩ ++ nl a (x ++ [s])) ++ ⟨#[93]⟩
  | .app a b, x => ((((⟨#[40]⟩ ++ nl a x) ++ ⟨#[32]⟩) ++ nl b x) ++ ⟨#[41]⟩)
  | .no, _ => .empty

theorem nl_size {K : Nat} (hK : K ≤ 2600) (t : Tp) : ∀ x : List ByteArray, LowT K t → Nm t → x.length + t.sz ≤ 1000000 → (nl t x).size + 3 ≤ 20 * t.sz := by
  induction t with
  | no => intro x _ h; exact h.elim
  | mt n =>
    intro x _ h _
    obtain ⟨k, rfl, hk⟩ := h
    have := dcm_size 1 k (by omega) (by decide)
    simp only [nl, ByteArray.size_append, sz1, Int.toNat_natCast, Tp.sz]; omega
  | con s => intro x _ h _; have := small6_size s h; simp only [nl, Tp.sz]; omega
  | var s =>
    intro x h _ hl
    simp only [nl, Tp.sz] at hl ⊢
    split
    · rename_i hm
      have := ixN_lt (List.mem_reverse.2 (memb_iff.1 hm))
      rw [List.length_reverse] at this
      have := dcm_size 6 (ixN x.reverse s) (by omega) (by decide)
      rw [ByteArray.size_append, sz1]; omega
    · have := low_size h hK
      rw [ByteArray.size_append, sz1]; omega
  | app a b iha ihb =>
    intro x h1 h2 hl
    simp only [Tp.sz] at hl
    have := iha x h1.1 h2.1 (by omega)
    have := ihb x h1.2 h2.2 (by omega)
    simp only [nl, ByteArray.size_append, sz1, Tp.sz]; omega
  | all s a ih =>
    intro x h1 h2 hl
    simp only [Tp.sz] at hl
    have := ih (x ++ [s]) h1.2 h2 (by simp; omega)
    simp only [nl, ByteArray.size_append, sz1, Tp.sz]; omega

theorem wrap_sub {n : Int} (h0 : -1 ≤ n) (h1 : n < 9223372036854775807) : IntKind.i64.wrap n = n := wrap_in (by unfold InR; omega)

theorem nameless_ok {K : Nat} (hK : K ≤ 2600) (t : Tp) : ∀ x : List ByteArray, LowT K t → Nm t → x.length + t.sz ≤ 1000000 → ACall Tryd.prog n_fugueref04_Nameless [eTy t, .sl (eSs x)] (.lit (.string (nl t x))) := by
  induction t with
  | no => intro x _ h; exact h.elim
  | mt n =>
    intro x _ h _
    obtain ⟨k, rfl, hk⟩ := h
    have := dcm_size 1 k (by omega) (by decide)
    refine acall_of_wc ttok mixed Tryd.func55 rfl (by rfl) (Nat.le_of_ble_eq_true rfl) (by kernel_rfl) ?_
    refine ⟨fun _ => ?_, fun h => (by cases h)⟩
    refine .inl ⟨_, decimal_ok k k (Nat.le_refl _) (by omega), ?_⟩
    refine ⟨by rw [sz1]; omega, ?_⟩
    exact rfl
  | con s =>
    intro x _ h _
    refine acall_of_wc ttok mixed Tryd.func55 rfl (by rfl) (Nat.le_of_ble_eq_true rfl) (by kernel_rfl) ?_
    refine ⟨fun h => (by cases h), fun _ => ?_⟩
    refine ⟨fun h => (by cases h), fun _ => ?_⟩
    refine ⟨fun _ => ?_, fun h => (by cases h)⟩
    exact rfl
  | var s =>
    intro x h _ hl
    simp only [Tp.sz] at hl
    have hsz := low_size h hK
    have hxl : (eSs x).length = x.length := by simp [eSs]
    have hrl : x.reverse.length = x.length := by simp
    have e0 : IntKind.i64.wrap (((eSs x).length : Nat) - 1) = (x.length : Int) - 1 := by rw [hxl]; exact wrap_sub (by omega) (by omega)
    refine acall_of_wc ttok mixed Tryd.func55 rfl (by rfl) (Nat.le_of_ble_eq_true rfl) (by kernel_rfl) ?_
    refine ⟨fun h => (by cases h), fun _ => ?_⟩
    refine ⟨fun _ => ?_, fun h => (by cases h)⟩
    refine ⟨{k : Nat // k ≤ x.length ∧ ∀ j, j < k → x.reverse[j]? ≠ some s}, fun k => { vs := [(1, .v (.sl (eSs x))), (2, .box 0 (eTy (.var s))), (5, .v (.lit (.int .i64 ((x.length : Int) - 1 - (k.1 : Nat)))))], ow := [] },
      fun k => x.length - k.1, ⟨0, Nat.zero_le _, fun j hj => absurd hj (by omega)⟩, ⟨⟨rfl, rfl, ?_, trivial⟩, trivial, rfl⟩, ?_⟩
    · exact congrArg (fun n => SV.v (AV.lit (Value.int .i64 n))) (e0.trans (by simp))
    rintro ⟨k, hk, hn⟩
    refine ⟨fun h => ?_, fun h => ?_⟩
    · have h : k < x.length := by
        have := of_decide_eq_true h
        simp only at this
        omega
      have ei : ((x.length : Int) - 1 - (k : Nat)).toNat = x.length - 1 - k := by omega
      have hi : x.length - 1 - k < x.length := by omega
      have hrev : x.reverse[k]'(by omega) = x[x.length - 1 - k] := by simp [List.getElem_reverse]
      refine ⟨.lit (.string x[x.length - 1 - k]), by show (0 : Int) ≤ (x.length : Int) - 1 - (k : Nat); omega, by show (eSs x)[((x.length : Int) - 1 - (k : Nat)).toNat]? = _; rw [ei]; exact getS hi, rfl, ?_⟩
      refine ⟨fun h2 => ?_, fun h2 => ?_⟩
      · have h2 : x[x.length - 1 - k] = s := of_decide_eq_true h2
        have hm : s ∈ x := h2 ▸ List.getElem_mem hi
        have hix : ixN x.reverse s = k := by
          have h1 := ixI_at (l := x.reverse) (k := k) (by omega) (by rw [hrev, h2]) hn
          rw [ixN_eq (List.mem_reverse.2 hm)] at h1
          omega
        have en : nl (.var s) x = ⟨#[35]⟩ ++ dcm k := by rw [nl, memb_yes hm, if_pos rfl, hix]
        rw [en]
        have ek : IntKind.i64.wrap (IntKind.i64.wrap (((eSs x).length : Nat) - 1) - ((x.length : Int) - 1 - (k : Nat))) = ((k : Nat) : Int) := by
          rw [e0, show (x.length : Int) - 1 - ((x.length : Int) - 1 - (k : Nat)) = ((k : Nat) : Int) by omega]; exact wrap_nat (by omega)
        have hd := decimal_ok k k (Nat.le_refl _) (by omega)
        rw [← ek] at hd
        refine .inl ⟨_, hd, ?_⟩
        have := dcm_size 6 k (by omega) (by decide)
        refine ⟨by rw [sz1]; omega, ?_⟩
        exact rfl
      · have h2 : x[x.length - 1 - k] ≠ s := of_decide_eq_false h2
        refine ⟨⟨k + 1, h, step_no (l := x.reverse) (by omega) (by rw [hrev]; exact h2) hn⟩, (show x.length - (k + 1) < x.length - k by omega), ⟨rfl, rfl, ?_, trivial⟩, trivial, rfl⟩
        refine congrArg (fun n => SV.v (AV.lit (Value.int .i64 n))) ?_
        show IntKind.i64.wrap ((x.length : Int) - 1 - (k : Nat) - 1) = (x.length : Int) - 1 - ((k + 1 : Nat) : Int)
        rw [wrap_sub (by omega) (by omega)]; omega
    · have h : k = x.length := by
        have := of_decide_eq_false h
        simp only at this
        omega
      subst h
      have hno : s ∉ x := fun hm => not_mem_of (l := x.reverse) (by rw [hrl]; exact hn) (List.mem_reverse.2 hm)
      have en : nl (.var s) x = ⟨#[39]⟩ ++ s := by rw [nl, memb_no hno]; rfl
      rw [en]
      refine ⟨by rw [sz1]; show 1 + s.size ≤ _; omega, ?_⟩
      exact rfl
  | app a b iha ihb =>
    intro x h1 h2 hl
    simp only [Tp.sz] at hl
    have ha := nl_size hK a x h1.1 h2.1 (by omega)
    have hb := nl_size hK b x h1.2 h2.2 (by omega)
    refine acall_of_wc ttok mixed Tryd.func55 rfl (by rfl) (Nat.le_of_ble_eq_true rfl) (by kernel_rfl) ?_
    refine ⟨fun h => (by cases h), fun _ => ?_⟩
    refine ⟨fun h => (by cases h), fun _ => ?_⟩
    refine ⟨fun h => (by cases h), fun _ => ?_⟩
    refine ⟨fun h => (by cases h), fun _ => ?_⟩
    refine ⟨fun _ => ?_, fun h => (by cases h)⟩
    refine ⟨fun h => (by cases h), fun _ => ?_⟩
    refine ⟨_, by decide, rfl, rfl, ?_⟩
    refine .inl ⟨_, iha x h1.1 h2.1 (by omega), ?_⟩
    refine ⟨by simp only [ByteArray.size_append, sz1]; omega, ?_⟩
    refine ⟨by simp only [ByteArray.size_append, sz1]; omega, ?_⟩
    refine ⟨_, by decide, rfl, rfl, ?_⟩
    refine .inl ⟨_, ihb x h1.2 h2.2 (by omega), ?_⟩
    refine ⟨by simp only [ByteArray.size_append, sz1]; omega, ?_⟩
    refine ⟨by simp only [ByteArray.size_append, sz1]; omega, ?_⟩
    exact rfl
  | all s a ih =>
    intro x h1 h2 hl
    simp only [Tp.sz] at hl
    have hxl : (eSs x).length = x.length := by simp [eSs]
    have ha := nl_size hK a (x ++ [s]) h1.2 h2 (by simp; omega)
    have hi := ih (x ++ [s]) h1.2 h2 (by simp; omega)
    rw [← snocS, ← List.nil_append (eSs x)] at hi
    refine acall_of_wc ttok mixed Tryd.func55 rfl (by rfl) (Nat.le_of_ble_eq_true rfl) (by kernel_rfl) ?_
    refine ⟨fun h => (by cases h), fun _ => ?_⟩
    refine ⟨fun h => (by cases h), fun _ => ?_⟩
    refine ⟨fun h => (by cases h), fun _ => ?_⟩
    refine ⟨fun _ => ?_, fun h => (by cases h)⟩
    refine ⟨fun h => (by cases h), fun _ => ?_⟩
    refine ⟨by simp [hxl]; omega, uni0 _, uniS _, ?_⟩
    refine ⟨_, by decide, rfl, rfl, ?_⟩
    refine ⟨by simp [hxl]; omega, by simpa using uniS x, uniS [_], ?_⟩
    refine .inl ⟨_, hi, ?_⟩
    refine ⟨by simp only [ByteArray.size_append, sz1]; omega, ?_⟩
    refine ⟨by simp only [ByteArray.size_append, sz1]; omega, ?_⟩
    exact rfl

theorem rSame_ok {K : Nat} (hK : K ≤ 2600) {a b : Tp} (ha : LowT K a) (hb : LowT K b) (na : Nm a) (nb : Nm b) (sa : a.sz ≤ 1000000) (sb : b.sz ≤ 1000000) :
    ACall Tryd.prog n_fugueref04_Same [eTy a, eTy b] (.sb (decide (nl a [] = nl b []))) := by
  refine acall_of_wc ttok mixed Tryd.func28 rfl (by rfl) (Nat.le_of_ble_eq_true rfl) (by kernel_rfl) ?_
  refine .inl ⟨_, nameless_ok hK a [] ha na (by simpa using sa), ?_⟩
  refine .inl ⟨_, nameless_ok hK b [] hb nb (by simpa using sb), ?_⟩
  exact rfl
end Go.Proofs.YtocglbflmkadeaaDoor
