/- A part of the proof of a given statement: contracts of functions of the program, under no condition but those that each states. -/
import Derived.Test.YtigifkjcghkiiaaDoorC
import Derived.Test.YtigifkjcghkiiaaDoorS1
import Derived.Test.YtigifkjcghkiiaaDoorFpE
set_option linter.unusedSimpArgs false
set_option linter.unusedVariables false
namespace Go.Proofs.YtigifkjcghkiiaaDoor
open Go Fp
set_option maxRecDepth 100000
set_option maxHeartbeats 8000000

theorem sub_low (t : Tp) : ∀ (K : Nat) (ps : Env'), Fit K t ps → LowT (K + dp t) (sub t ps) := by
  induction t with
  | var s =>
    intro K ps h
    simp only [sub]
    cases hl : look s ps with
    | none => exact h.low.mono (by omega)
    | some u => exact (h.lows _ (look_mem hl)).mono (by omega)
  | app a b iha ihb =>
    intro K ps h
    have h1 := iha K ps h.app.1
    have h2 := ihb K ps h.app.2
    exact ⟨h1.mono (by simp only [dp]; omega), h2.mono (by simp only [dp]; omega)⟩
  | all s a ih =>
    intro K ps h
    simp only [sub]
    split
    · obtain ⟨h1, h2⟩ := h.all1
      have h3 := ih _ _ h2
      exact ⟨⟨_, by simp only [dp]; omega, rfl⟩, h3.mono (by simp only [dp]; omega)⟩
    · have h3 := ih _ _ h.all0
      exact ⟨h.low.1.mono (by omega), h3.mono (by simp only [dp]; omega)⟩
  | _ => intro K ps h; trivial

theorem sub_dp {D : Nat} (t : Tp) : ∀ ps : Env', (∀ p ∈ ps, dp p.2 ≤ D) → dp (sub t ps) ≤ dp t + D := by
  induction t with
  | var s =>
    intro ps h
    simp only [sub]
    cases hl : look s ps with
    | none => simp [dp]
    | some u => have : dp u ≤ D := h _ (look_mem hl); simp only [dp, Option.getD_some]; omega
  | app a b iha ihb =>
    intro ps h
    have h1 := iha ps h
    have h2 := ihb ps h
    simp only [sub, dp]; omega
  | all s a ih =>
    intro ps h
    simp only [sub]
    split
    · have h3 := ih (kept s (fv a) ps ++ [(s, .var (lett (ff (caught (kept s (fv a) ps) ++ fv a))))]) (fun p hp => by
        rcases List.mem_append.1 hp with hp | hp
        · exact h p (kept_mem hp)
        · simp at hp; subst hp; simp [dp])
      simp only [dp]; omega
    · have h3 := ih (kept s (fv a) ps) (fun p hp => h p (kept_mem hp))
      simp only [dp]; omega
  | _ => intro ps h; simp [sub, dp]

end Go.Proofs.YtigifkjcghkiiaaDoor

namespace Go.Proofs.YtigifkjcghkiiaaDoor
open Go Fp
set_option maxRecDepth 100000
set_option maxHeartbeats 8000000

/-- Constructors and numbers of a small world. -/
def Nm : Tp → Prop
  | .app a b => Nm a ∧ Nm b
  | .all _ a => Nm a
  | .con s => s ∈ small6
  | .mt n => ∃ k : Nat, n = (k : Int) ∧ k < 10
  | .var _ => True
  | .no => False
theorem good_nm {t : Tp} (h : good t) : Nm t := by
  induction t with
  | no => exact h
  | mt n => exact h
  | con s => exact h
  | var s => trivial
  | app a b iha ihb => exact ⟨iha h.1, ihb h.2⟩
  | all s a ih => exact ih h.2
theorem sub_nm (t : Tp) : ∀ ps : Env', Nm t → (∀ p ∈ ps, Nm p.2) → Nm (sub t ps) := by
  induction t with
  | var s =>
    intro ps _ h
    simp only [sub]
    cases hl : look s ps with
    | none => trivial
    | some u => exact h _ (look_mem hl)
  | app a b iha ihb => exact fun ps h1 h => ⟨iha ps h1.1 h, ihb ps h1.2 h⟩
  | all s a ih =>
    intro ps h1 h
    simp only [sub]
    split
    · exact ih _ h1 (fun p hp => by
        rcases List.mem_append.1 hp with hp | hp
        · exact h p (kept_mem hp)
        · simp at hp; subst hp; trivial)
    · exact ih _ h1 (fun p hp => h p (kept_mem hp))
  | _ => exact fun _ h _ => h

theorem low_size {K : Nat} {s : ByteArray} (h : Low K s) (hK : K ≤ 2600) : s.size ≤ 3 := by
  obtain ⟨n, hn, rfl⟩ := h
  unfold lett
  split
  · rw [sz1]; omega
  · rw [ByteArray.size_append, sz1]
    have := dcm_size 2 (n / 26) (by omega) (by decide)
    omega

/-- A type without names, as a text. -/
def nl : Tp → List ByteArray → ByteArray
  | .mt n, _ => ⟨#[63]⟩ ++ dcm n.toNat
  | .var s, x => if memb s x then ⟨#[35]⟩ ++ dcm (ixN x.reverse s) else ⟨#[39]⟩ ++ s
  | .con s, _ => s
  | .all s a, x => (⟨#[91]⟩ ++ nl a (x ++ [s])) ++ ⟨#[93]⟩
  | .app a b, x => ((((⟨#[40]⟩ ++ nl a x) ++ ⟨#[32]⟩) ++ nl b x) ++ ⟨#[41]⟩)
  | .no, _ => .empty

theorem nl_size {K : Nat} (hK : K ≤ 2600) (t : Tp) : ∀ x : List ByteArray, LowT K t → Nm t → x.length + t.sz ≤ 1000000 → (nl t x).size + 3 ≤ 20 * t.sz := by
  induction t with
  | no => intro x _ h; exact h.elim
  | mt n =>
    intro x _ h _
    obtain ⟨k, rfl, hk⟩ := h
    have := dcm_size 1 k (by omega) (by decide)
    simp only [nl, ByteArray.size_append, sz1, Int.toNat_natCast, Tp.sz]; omega
  | con s => intro x _ h _; have := small6_size s h; simp only [nl, Tp.sz]; omega
  | var s =>
    intro x h _ hl
    simp only [nl, Tp.sz] at hl ⊢
    split
    · rename_i hm
      have := ixN_lt (List.mem_reverse.2 (memb_iff.1 hm))
      rw [List.length_reverse] at this
      have := dcm_size 6 (ixN x.reverse s) (by omega) (by decide)
      rw [ByteArray.size_append, sz1]; omega
    · have := low_size h hK
      rw [ByteArray.size_append, sz1]; omega
  | app a b iha ihb =>
    intro x h1 h2 hl
    simp only [Tp.sz] at hl
    have := iha x h1.1 h2.1 (by omega)
    have := ihb x h1.2 h2.2 (by omega)
    simp only [nl, ByteArray.size_append, sz1, Tp.sz]; omega
  | all s a ih =>
    intro x h1 h2 hl
    simp only [Tp.sz] at hl
    have := ih (x ++ [s]) h1.2 h2 (by simp; omega)
    simp only [nl, ByteArray.size_append, sz1, Tp.sz]; omega

theorem wrap_sub {n : Int} (h0 : -1 ≤ n) (h1 : n < 9223372036854775807) : IntKind.i64.wrap n = n := wrap_in (by unfold InR; omega)

theorem nameless_ok {K : Nat} (hK : K ≤ 2600) (t : Tp) : ∀ x : List ByteArray, LowT K t → Nm t → x.length + t.sz ≤ 1000000 → ACall Tryd.prog n_fugueref04_Nameless [eTy t, .sl (eSs x)] (.lit (.string (nl t x))) := by
  induction t with
  | no => intro x _ h; exact h.elim
  | mt n =>
    intro x _ h _
    obtain ⟨k, rfl, hk⟩ := h
    have := dcm_size 1 k (by omega) (by decide)
    refine acall_of_wc ttok mixed Tryd.func42 rfl (by rfl) (Nat.le_of_ble_eq_true rfl) (by kernel_rfl) ?_
    refine ⟨fun _ => ?_, fun h => (by cases h)⟩
    refine .inl ⟨_, decimal_ok k k (Nat.le_refl _) (by omega), ?_⟩
    refine ⟨by rw [sz1]; omega, ?_⟩
    exact rfl
  | con s =>
    intro x _ h _
    refine acall_of_wc ttok mixed Tryd.func42 rfl (by rfl) (Nat.le_of_ble_eq_true rfl) (by kernel_rfl) ?_
    refine ⟨fun h => (by cases h), fun _ => ?_⟩
    refine ⟨fun h => (by cases h), fun _ => ?_⟩
    refine ⟨fun _ => ?_, fun h => (by cases h)⟩
    exact rfl
  | var s =>
    intro x h _ hl
    simp only [Tp.sz] at hl
    have hsz := low_size h hK
    have hxl : (eSs x).length = x.length := by simp [eSs]
    have hrl : x.reverse.length = x.length := by simp
    have e0 : IntKind.i64.wrap (((eSs x).length : Nat) - 1) = (x.length : Int) - 1 := by rw [hxl]; exact wrap_sub (by omega) (by omega)
    refine acall_of_wc ttok mixed Tryd.func42 rfl (by rfl) (Nat.le_of_ble_eq_true rfl) (by kernel_rfl) ?_
    refine ⟨fun h => (by cases h), fun _ => ?_⟩
    refine ⟨fun _ => ?_, fun h => (by cases h)⟩
    refine ⟨{k : Nat // k ≤ x.length ∧ ∀ j, j < k → x.reverse[j]? ≠ some s}, fun k => { vs := [(1, .v (.sl (eSs x))), (2, .box 0 (eTy (.var s))), (5, .v (.lit (.int .i64 ((x.length : Int) - 1 - (k.1 : Nat)))))], ow := [] },
      fun k => x.length - k.1, ⟨0, Nat.zero_le _, fun j hj => absurd hj (by omega)⟩, ⟨⟨rfl, rfl, ?_, trivial⟩, trivial, rfl⟩, ?_⟩
    · exact congrArg (fun n => SV.v (AV.lit (Value.int .i64 n))) (e0.trans (by simp))
    rintro ⟨k, hk, hn⟩
    refine ⟨fun h => ?_, fun h => ?_⟩
    · have h : k < x.length := by
        have := of_decide_eq_true h
        simp only at this
        omega
      have ei : ((x.length : Int) - 1 - (k : Nat)).toNat = x.length - 1 - k := by omega
      have hi : x.length - 1 - k < x.length := by omega
      have hrev : x.reverse[k]'(by omega) = x[x.length - 1 - k] := by simp [List.getElem_reverse]
      refine ⟨.lit (.string x[x.length - 1 - k]), by show (0 : Int) ≤ (x.length : Int) - 1 - (k : Nat); omega, by show (eSs x)[((x.length : Int) - 1 - (k : Nat)).toNat]? = _; rw [ei]; exact getS hi, rfl, ?_⟩
      refine ⟨fun h2 => ?_, fun h2 => ?_⟩
      · have h2 : x[x.length - 1 - k] = s := of_decide_eq_true h2
        have hm : s ∈ x := h2 ▸ List.getElem_mem hi
        have hix : ixN x.reverse s = k := by
          have h1 := ixI_at (l := x.reverse) (k := k) (by omega) (by rw [hrev, h2]) hn
          rw [ixN_eq (List.mem_reverse.2 hm)] at h1
          omega
        have en : nl (.var s) x = ⟨#[35]⟩ ++ dcm k := by rw [nl, memb_yes hm, if_pos rfl, hix]
        rw [en]
        have ek : IntKind.i64.wrap (IntKind.i64.wrap (((eSs x).length : Nat) - 1) - ((x.length : Int) - 1 - (k : Nat))) = ((k : Nat) : Int) := by
          rw [e0, show (x.length : Int) - 1 - ((x.length : Int) - 1 - (k : Nat)) = ((k : Nat) : Int) by omega]; exact wrap_nat (by omega)
        have hd := decimal_ok k k (Nat.le_refl _) (by omega)
        rw [← ek] at hd
        refine .inl ⟨_, hd, ?_⟩
        have := dcm_size 6 k (by omega) (by decide)
        refine ⟨by rw [sz1]; omega, ?_⟩
        exact rfl
      · have h2 : x[x.length - 1 - k] ≠ s := of_decide_eq_false h2
        refine ⟨⟨k + 1, h, step_no (l := x.reverse) (by omega) (by rw [hrev]; exact h2) hn⟩, (show x.length - (k + 1) < x.length - k by omega), ⟨rfl, rfl, ?_, trivial⟩, trivial, rfl⟩
        refine congrArg (fun n => SV.v (AV.lit (Value.int .i64 n))) ?_
        show IntKind.i64.wrap ((x.length : Int) - 1 - (k : Nat) - 1) = (x.length : Int) - 1 - ((k + 1 : Nat) : Int)
        rw [wrap_sub (by omega) (by omega)]; omega
    · have h : k = x.length := by
        have := of_decide_eq_false h
        simp only at this
        omega
      subst h
      have hno : s ∉ x := fun hm => not_mem_of (l := x.reverse) (by rw [hrl]; exact hn) (List.mem_reverse.2 hm)
      have en : nl (.var s) x = ⟨#[39]⟩ ++ s := by rw [nl, memb_no hno]; rfl
      rw [en]
      refine ⟨by rw [sz1]; show 1 + s.size ≤ _; omega, ?_⟩
      exact rfl
  | app a b iha ihb =>
    intro x h1 h2 hl
    simp only [Tp.sz] at hl
    have ha := nl_size hK a x h1.1 h2.1 (by omega)
    have hb := nl_size hK b x h1.2 h2.2 (by omega)
    refine acall_of_wc ttok mixed Tryd.func42 rfl (by rfl) (Nat.le_of_ble_eq_true rfl) (by kernel_rfl) ?_
    refine ⟨fun h => (by cases h), fun _ => ?_⟩
    refine ⟨fun h => (by cases h), fun _ => ?_⟩
    refine ⟨fun h => (by cases h), fun _ => ?_⟩
    refine ⟨fun h => (by cases h), fun _ => ?_⟩
    refine ⟨fun _ => ?_, fun h => (by cases h)⟩
    refine ⟨fun h => (by cases h), fun _ => ?_⟩
    refine ⟨_, by decide, rfl, rfl, ?_⟩
    refine .inl ⟨_, iha x h1.1 h2.1 (by omega), ?_⟩
    refine ⟨by simp only [ByteArray.size_append, sz1]; omega, ?_⟩
    refine ⟨by simp only [ByteArray.size_append, sz1]; omega, ?_⟩
    refine ⟨_, by decide, rfl, rfl, ?_⟩
    refine .inl ⟨_, ihb x h1.2 h2.2 (by omega), ?_⟩
    refine ⟨by simp only [ByteArray.size_append, sz1]; omega, ?_⟩
    refine ⟨by simp only [ByteArray.size_append, sz1]; omega, ?_⟩
    exact rfl
  | all s a ih =>
    intro x h1 h2 hl
    simp only [Tp.sz] at hl
    have hxl : (eSs x).length = x.length := by simp [eSs]
    have ha := nl_size hK a (x ++ [s]) h1.2 h2 (by simp; omega)
    have hi := ih (x ++ [s]) h1.2 h2 (by simp; omega)
    rw [← snocS, ← List.nil_append (eSs x)] at hi
    refine acall_of_wc ttok mixed Tryd.func42 rfl (by rfl) (Nat.le_of_ble_eq_true rfl) (by kernel_rfl) ?_
    refine ⟨fun h => (by cases h), fun _ => ?_⟩
    refine ⟨fun h => (by cases h), fun _ => ?_⟩
    refine ⟨fun h => (by cases h), fun _ => ?_⟩
    refine ⟨fun _ => ?_, fun h => (by cases h)⟩
    refine ⟨fun h => (by cases h), fun _ => ?_⟩
    refine ⟨by simp [hxl]; omega, uni0 _, uniS _, ?_⟩
    refine ⟨_, by decide, rfl, rfl, ?_⟩
    refine ⟨by simp [hxl]; omega, by simpa using uniS x, uniS [_], ?_⟩
    refine .inl ⟨_, hi, ?_⟩
    refine ⟨by simp only [ByteArray.size_append, sz1]; omega, ?_⟩
    refine ⟨by simp only [ByteArray.size_append, sz1]; omega, ?_⟩
    exact rfl

theorem rSame_ok {K : Nat} (hK : K ≤ 2600) {a b : Tp} (ha : LowT K a) (hb : LowT K b) (na : Nm a) (nb : Nm b) (sa : a.sz ≤ 1000000) (sb : b.sz ≤ 1000000) :
    ACall Tryd.prog n_fugueref04_Same [eTy a, eTy b] (.sb (decide (nl a [] = nl b []))) := by
  refine acall_of_wc ttok mixed Tryd.func15 rfl (by rfl) (Nat.le_of_ble_eq_true rfl) (by kernel_rfl) ?_
  refine .inl ⟨_, nameless_ok hK a [] ha na (by simpa using sa), ?_⟩
  refine .inl ⟨_, nameless_ok hK b [] hb nb (by simpa using sb), ?_⟩
  exact rfl
end Go.Proofs.YtigifkjcghkiiaaDoor

namespace Go.Proofs.YtigifkjcghkiiaaDoor
open Go Fp
set_option maxRecDepth 100000
set_option maxHeartbeats 8000000

/-- A byte of a word. -/
def tk (c : UInt8) : Bool := (48 ≤ c && c ≤ 57) || (65 ≤ c && c ≤ 90) || (97 ≤ c && c ≤ 122)
abbrev by' (s : ByteArray) : List UInt8 := s.data.toList
theorem by_app (a b : ByteArray) : by' (a ++ b) = by' a ++ by' b := ba_app a b
theorem by_ext {a b : ByteArray} (h : by' a = by' b) : a = b := by
  cases a; cases b; simpa [by', Array.toList_inj] using h

theorem tk_dig : ∀ d : Fin 10, tk (UInt8.ofNat (48 + d.val)) = true := by decide
theorem tk_let : ∀ d : Fin 26, tk (UInt8.ofNat (97 + d.val)) = true := by decide
theorem dcm_tk (n : Nat) : ∀ c ∈ by' (dcm n), tk c = true := by
  induction n using Nat.strongRecOn with
  | _ n ih =>
    intro c hc
    by_cases h : n < 10
    · rw [dcm_small h] at hc
      rw [List.mem_singleton.1 (show c ∈ [UInt8.ofNat (48 + n)] from hc)]; exact tk_dig ⟨n, h⟩
    · rw [dcm_big h, by_app] at hc
      rcases List.mem_append.1 hc with hc | hc
      · exact ih (n / 10) (by omega) c hc
      · rw [List.mem_singleton.1 (show c ∈ [UInt8.ofNat (48 + n % 10)] from hc)]; exact tk_dig ⟨n % 10, by omega⟩
theorem lett_tk (n : Nat) : ∀ c ∈ by' (lett n), tk c = true := by
  intro c hc
  unfold lett at hc
  split at hc
  · rw [List.mem_singleton.1 (show c ∈ [UInt8.ofNat (97 + n % 26)] from hc)]; exact tk_let ⟨n % 26, by omega⟩
  · rw [by_app] at hc
    rcases List.mem_append.1 hc with hc | hc
    · rw [List.mem_singleton.1 (show c ∈ [UInt8.ofNat (97 + n % 26)] from hc)]; exact tk_let ⟨n % 26, by omega⟩
    · exact dcm_tk _ c hc
theorem dcm_inj {a b : Nat} (h : by' (dcm a) = by' (dcm b)) : a = b := by rw [← dcm_digs a, ← dcm_digs b]; exact congrArg digs h

/-- Nothing, or no byte of a word stands first. -/
def Ends (r : List UInt8) : Prop := ∀ c, r[0]? = some c → tk c = false
theorem ends_nil : Ends [] := fun c h => by simp at h
theorem ends_cons {c : UInt8} {r : List UInt8} (h : tk c = false) : Ends (c :: r) := fun d hd => by simp at hd; subst hd; exact h

theorem word : ∀ {l m r q : List UInt8}, (∀ c ∈ l, tk c = true) → (∀ c ∈ m, tk c = true) → Ends r → Ends q → l ++ r = m ++ q → l = m ∧ r = q
  | [], [], r, q, _, _, _, _, h => ⟨rfl, h⟩
  | [], c :: m, r, q, _, hm, hr, _, h => by
    have h : r = c :: (m ++ q) := h
    subst h
    have := hr c (by simp)
    rw [hm c (by simp)] at this; cases this
  | c :: l, [], r, q, hl, _, _, hq, h => by
    have h : c :: (l ++ r) = q := h
    subst h
    have := hq c (by simp)
    rw [hl c (by simp)] at this; cases this
  | c :: l, d :: m, r, q, hl, hm, hr, hq, h => by
    simp only [List.cons_append, List.cons.injEq] at h
    obtain ⟨rfl, h⟩ := h
    obtain ⟨rfl, h2⟩ := word (fun x hx => hl x (by simp [hx])) (fun x hx => hm x (by simp [hx])) hr hq h
    exact ⟨rfl, h2⟩

def ser : Db → List UInt8
  | .mt n => 63 :: by' (dcm n.toNat)
  | .bv i => 35 :: by' (dcm i)
  | .fr s => 39 :: by' s
  | .con s => by' s
  | .all a => 91 :: (ser a ++ [93])
  | .app a b => 40 :: (ser a ++ 32 :: (ser b ++ [41]))
  | .no => []
def Vd : Db → Prop
  | .mt n => ∃ k : Nat, n = (k : Int) ∧ k < 10
  | .bv _ => True
  | .fr s => ∀ c ∈ by' s, tk c = true
  | .con s => s ∈ small6
  | .all a => Vd a
  | .app a b => Vd a ∧ Vd b
  | .no => False

theorem nl_ser (t : Tp) : ∀ x, by' (nl t x) = ser (db t x.reverse) := by
  induction t with
  | no => intro x; rfl
  | mt n => intro x; rw [nl, by_app]; rfl
  | con s => intro x; rfl
  | var s =>
    intro x
    simp only [nl, db, memb_rev]
    split
    · rw [by_app]; rfl
    · rw [by_app]; rfl
  | app a b iha ihb =>
    intro x
    simp only [nl, by_app, iha, ihb, db, ser]
    simp [by']
  | all s a ih =>
    intro x
    simp only [nl, by_app, ih, db, ser, List.reverse_append, List.reverse_cons, List.reverse_nil, List.nil_append, List.singleton_append]
    simp [by']

theorem small6_cases {s : ByteArray} (h : s ∈ small6) : by' s = [73, 110, 116] ∨ by' s = [66, 111, 111, 108] ∨ by' s = [76] ∨ by' s = [80] ∨ by' s = [70] ∨ by' s = [45, 62] := by
  unfold small6 at h
  simp at h
  rcases h with rfl | rfl | rfl | rfl | rfl | rfl <;> simp [by']

theorem con_word {s u : ByteArray} (hs : s ∈ small6) (hu : u ∈ small6) {r q : List UInt8} (hr : Ends r) (hq : Ends q) (h : by' s ++ r = by' u ++ q) : s = u ∧ r = q := by
  have dash : ∀ {s : ByteArray} {l r q : List UInt8}, by' s ++ r = l ++ q → by' s = [45, 62] → l ≠ [] → l[0]? ≠ some 45 → False := fun {s l r q} h h1 h2 h3 => by
    rw [h1] at h
    cases l with
    | nil => exact h2 rfl
    | cons c l => simp at h; exact h3 (by simp [h.1])
  by_cases h1 : by' s = [45, 62]
  · by_cases h2 : by' u = [45, 62]
    · rw [h1, h2] at h
      exact ⟨by_ext (h1.trans h2.symm), by simpa using h⟩
    · refine (dash h h1 ?_ ?_).elim
      · rcases small6_cases hu with e | e | e | e | e | e <;> rw [e] <;> simp
      · rcases small6_cases hu with e | e | e | e | e | e <;> first | exact absurd e h2 | (rw [e]; simp)
  · by_cases h2 : by' u = [45, 62]
    · refine (dash h.symm h2 ?_ ?_).elim
      · rcases small6_cases hs with e | e | e | e | e | e <;> rw [e] <;> simp
      · rcases small6_cases hs with e | e | e | e | e | e <;> first | exact absurd e h1 | (rw [e]; simp)
    · have w : ∀ {s : ByteArray}, s ∈ small6 → by' s ≠ [45, 62] → ∀ c ∈ by' s, tk c = true := fun {s} hs h1 => by
        rcases small6_cases hs with e | e | e | e | e | e <;> first | exact absurd e h1 | (rw [e]; decide)
      obtain ⟨p1, p2⟩ := word (w hs h1) (w hu h2) hr hq h
      exact ⟨by_ext p1, p2⟩

theorem ser_inj (d : Db) : ∀ (e : Db) (r q : List UInt8), Vd d → Vd e → Ends r → Ends q → ser d ++ r = ser e ++ q → d = e ∧ r = q := by
  induction d with
  | no => intro e r q h; exact h.elim
  | mt n =>
    intro e r q hd he hr hq h
    obtain ⟨k, rfl, _⟩ := hd
    cases e with
    | mt m =>
      obtain ⟨j, rfl, _⟩ := he
      simp only [ser, List.cons_append, List.cons.injEq, true_and, Int.toNat_natCast] at h
      obtain ⟨h1, h2⟩ := word (dcm_tk _) (dcm_tk _) hr hq h
      exact ⟨by rw [dcm_inj h1], h2⟩
    | con s => rcases small6_cases he with e | e | e | e | e | e <;> simp [ser, e] at h
    | no => exact he.elim
    | _ => simp [ser] at h
  | bv n =>
    intro e r q hd he hr hq h
    cases e with
    | bv m =>
      simp only [ser, List.cons_append, List.cons.injEq, true_and] at h
      obtain ⟨h1, h2⟩ := word (dcm_tk _) (dcm_tk _) hr hq h
      exact ⟨by rw [dcm_inj h1], h2⟩
    | con s => rcases small6_cases he with e | e | e | e | e | e <;> simp [ser, e] at h
    | no => exact he.elim
    | _ => simp [ser] at h
  | fr s =>
    intro e r q hd he hr hq h
    cases e with
    | fr u =>
      simp only [ser, List.cons_append, List.cons.injEq, true_and] at h
      obtain ⟨h1, h2⟩ := word hd he hr hq h
      exact ⟨by rw [by_ext h1], h2⟩
    | con s => rcases small6_cases he with e | e | e | e | e | e <;> simp [ser, e] at h
    | no => exact he.elim
    | _ => simp [ser] at h
  | con s =>
    intro e r q hd he hr hq h
    cases e with
    | con u =>
      obtain ⟨rfl, h2⟩ := con_word hd he hr hq h
      exact ⟨rfl, h2⟩
    | no => exact he.elim
    | _ => rcases small6_cases hd with e | e | e | e | e | e <;> simp [ser, e] at h
  | all a ih =>
    intro e r q hd he hr hq h
    cases e with
    | all b =>
      simp only [ser, List.cons_append, List.cons.injEq, true_and, List.append_assoc] at h
      obtain ⟨rfl, h2⟩ := ih b _ _ hd he (ends_cons (by decide)) (ends_cons (by decide)) h
      exact ⟨rfl, by simpa using h2⟩
    | con s => rcases small6_cases he with e | e | e | e | e | e <;> simp [ser, e] at h
    | no => exact he.elim
    | _ => simp [ser] at h
  | app a b iha ihb =>
    intro e r q hd he hr hq h
    cases e with
    | app c d =>
      simp only [ser, List.cons_append, List.cons.injEq, true_and, List.append_assoc] at h
      obtain ⟨rfl, h2⟩ := iha c _ _ hd.1 he.1 (ends_cons (by decide)) (ends_cons (by decide)) h
      simp only [List.cons.injEq, true_and] at h2
      obtain ⟨rfl, h3⟩ := ihb d _ _ hd.2 he.2 (ends_cons (by decide)) (ends_cons (by decide)) h2
      exact ⟨rfl, by simpa using h3⟩
    | con s => rcases small6_cases he with e | e | e | e | e | e <;> simp [ser, e] at h
    | no => exact he.elim
    | _ => simp [ser] at h

theorem db_vd {K : Nat} (t : Tp) : ∀ e, LowT K t → Nm t → Vd (db t e) := by
  induction t with
  | no => exact fun _ _ h => h
  | mt n => exact fun _ _ h => h
  | con s => exact fun _ _ h => h
  | var s =>
    intro e h _
    simp only [db]
    split
    · trivial
    · obtain ⟨n, _, rfl⟩ := h
      exact lett_tk n
  | app a b iha ihb => exact fun e h1 h2 => ⟨iha e h1.1 h2.1, ihb e h1.2 h2.2⟩
  | all s a ih => exact fun e h1 h2 => ih _ h1.2 h2

theorem nl_iff {K : Nat} {a b : Tp} (ha : LowT K a) (hb : LowT K b) (na : Nm a) (nb : Nm b) : nl a [] = nl b [] ↔ smb a b [] [] = true := by
  rw [smb_db a b [] [] rfl]
  constructor
  · intro h
    have h1 := nl_ser a []
    have h2 := nl_ser b []
    rw [h] at h1
    rw [h1] at h2
    exact (ser_inj _ _ [] [] (db_vd a _ ha na) (db_vd b _ hb nb) ends_nil ends_nil (by rw [h2])).1
  · intro h
    refine by_ext ?_
    rw [nl_ser, nl_ser, h]
end Go.Proofs.YtigifkjcghkiiaaDoor

namespace Go.Proofs.YtigifkjcghkiiaaDoor
open Go Fp
set_option linter.unusedVariables false

/-- Types in the place of all numbers. -/
def sbt (θ : Int → Tp) : Tp → Tp
  | .mt n => θ n
  | .app a b => .app (sbt θ a) (sbt θ b)
  | .all s a => .all s (sbt θ a)
  | t => t
/-- The numbers of a type. -/
def mvs : Tp → List Int
  | .mt n => [n]
  | .app a b => mvs a ++ mvs b
  | .all _ a => mvs a
  | _ => []
theorem sbt_congr {θ η : Int → Tp} : ∀ {t : Tp}, (∀ n ∈ mvs t, θ n = η n) → sbt θ t = sbt η t
  | .mt n, h => h n (by simp [mvs])
  | .app a b, h => by rw [sbt, sbt, sbt_congr (t := a) (fun n hn => h n (by simp [mvs, hn])), sbt_congr (t := b) (fun n hn => h n (by simp [mvs, hn]))]
  | .all s a, h => by rw [sbt, sbt, sbt_congr (t := a) (fun n hn => h n (by simp [mvs, hn]))]
  | .no, _ => rfl
  | .var _, _ => rfl
  | .con _, _ => rfl
theorem sbt_mt : ∀ t : Tp, sbt .mt t = t
  | .mt n => rfl
  | .app a b => by rw [sbt, sbt_mt a, sbt_mt b]
  | .all s a => by rw [sbt, sbt_mt a]
  | .no => rfl
  | .var _ => rfl
  | .con _ => rfl
theorem sbt_none {θ : Int → Tp} {t : Tp} (h : ∀ n ∈ mvs t, θ n = .mt n) : sbt θ t = t := (sbt_congr h).trans (sbt_mt t)
theorem sbt_sbt (θ η : Int → Tp) : ∀ t : Tp, sbt θ (sbt η t) = sbt (fun n => sbt θ (η n)) t
  | .mt n => rfl
  | .app a b => by rw [sbt, sbt, sbt, sbt_sbt θ η a, sbt_sbt θ η b]
  | .all s a => by rw [sbt, sbt, sbt, sbt_sbt θ η a]
  | .no => rfl
  | .var _ => rfl
  | .con _ => rfl
theorem mem_mvs_sbt {θ : Int → Tp} {m : Int} : ∀ {t : Tp}, m ∈ mvs (sbt θ t) ↔ ∃ n ∈ mvs t, m ∈ mvs (θ n)
  | .mt n => by simp [sbt, mvs]
  | .app a b => by
    rw [sbt, mvs, List.mem_append, mem_mvs_sbt (t := a), mem_mvs_sbt (t := b)]
    simp only [mvs, List.mem_append]
    constructor
    · rintro (⟨n, h, k⟩ | ⟨n, h, k⟩)
      · exact ⟨n, .inl h, k⟩
      · exact ⟨n, .inr h, k⟩
    · rintro ⟨n, h | h, k⟩
      · exact .inl ⟨n, h, k⟩
      · exact .inr ⟨n, h, k⟩
  | .all s a => by rw [sbt, mvs, mem_mvs_sbt (t := a)]; rfl
  | .no => by simp [sbt, mvs]
  | .var _ => by simp [sbt, mvs]
  | .con _ => by simp [sbt, mvs]

/-- One type in the place of one number. -/
def put1 (n : Int) (x : Tp) (m : Int) : Tp := if m = n then x else .mt m
theorem put1_off {n : Int} {x t : Tp} (h : n ∉ mvs t) : sbt (put1 n x) t = t := sbt_none fun m hm => by
  unfold put1; rw [if_neg]; rintro rfl; exact h hm

/-- How many names and numbers there are. -/
def tsz : Tp → Nat
  | .app a b => tsz a + tsz b
  | .all _ a => 1 + tsz a
  | _ => 1
theorem tsz_pos : ∀ t : Tp, 0 < tsz t
  | .app a b => by have := tsz_pos a; simp only [tsz]; omega
  | .all _ a => by simp only [tsz]; omega
  | .mt _ => Nat.one_pos
  | .no => Nat.one_pos
  | .var _ => Nat.one_pos
  | .con _ => Nat.one_pos
theorem tsz_sbt (θ : Int → Tp) : ∀ t : Tp, tsz t ≤ tsz (sbt θ t)
  | .mt n => tsz_pos _
  | .app a b => by have := tsz_sbt θ a; have := tsz_sbt θ b; simp only [sbt, tsz]; omega
  | .all _ a => by have := tsz_sbt θ a; simp only [sbt, tsz]; omega
  | .no => Nat.le_refl _
  | .var _ => Nat.le_refl _
  | .con _ => Nat.le_refl _
/-- A number within a type: what stands in its place is no greater. -/
theorem tsz_in {θ : Int → Tp} {n : Int} : ∀ {t : Tp}, n ∈ mvs t → tsz (θ n) ≤ tsz (sbt θ t)
  | .mt m, h => by simp [mvs] at h; subst h; exact Nat.le_refl _
  | .app a b, h => by
    simp only [mvs, List.mem_append] at h
    simp only [sbt, tsz]
    rcases h with h | h
    · have := tsz_in (θ := θ) h; omega
    · have := tsz_in (θ := θ) h; omega
  | .all _ a, h => by have := tsz_in (θ := θ) (t := a) h; simp only [sbt, tsz]; omega
  | .no, h => by simp [mvs] at h
  | .var _, h => by simp [mvs] at h
  | .con _, h => by simp [mvs] at h

/-- What is known: numbers, and what they are; the last one stands last. -/
abbrev Kn := List (Int × Tp)
def getK (l : Kn) (n : Int) : Option Tp := (l.find? fun q => q.1 == n).map (·.2)
def dom (l : Kn) : List Int := l.map (·.1)

/-- All that is known put in: the newest first in the list. -/
def flR : Kn → Tp → Tp
  | [], x => x
  | (n, t) :: L, x => sbt (put1 n (flR L t)) (flR L x)
def fl (l : Kn) (x : Tp) : Tp := flR l.reverse x
theorem fl_nil (x : Tp) : fl [] x = x := rfl
theorem fl_snoc (l : Kn) (n : Int) (t x : Tp) : fl (l ++ [(n, t)]) x = sbt (put1 n (fl l t)) (fl l x) := by unfold fl; rw [List.reverse_append]; rfl

/-- What is known came to be known one by one, none within itself. -/
def OkR : Kn → Prop
  | [] => True
  | (n, t) :: L => OkR L ∧ n ∉ dom L ∧ n ∉ mvs (flR L t)
def Ok (l : Kn) : Prop := OkR l.reverse
theorem ok_nil : Ok [] := trivial
theorem ok_snoc {l : Kn} {n : Int} {t : Tp} : Ok (l ++ [(n, t)]) ↔ Ok l ∧ n ∉ dom l ∧ n ∉ mvs (fl l t) := by
  unfold Ok fl; rw [List.reverse_append]
  show OkR l.reverse ∧ n ∉ dom l.reverse ∧ _ ↔ _
  simp [dom]
/-- Lists from behind. -/
theorem snoc_ind {α : Type} {P : List α → Prop} (h0 : P []) (h1 : ∀ l a, P l → P (l ++ [a])) : ∀ l, P l := fun l => by
  have : ∀ r : List α, P r.reverse := fun r => by
    induction r with
    | nil => exact h0
    | cons a r ih => rw [List.reverse_cons]; exact h1 _ _ ih
  have := this l.reverse
  rwa [List.reverse_reverse] at this

/-- What each number is, in the end. -/
def sg (l : Kn) (n : Int) : Tp := fl l (.mt n)
theorem fl_sbt (l : Kn) : ∀ x, fl l x = sbt (sg l) x := by
  induction l using snoc_ind with
  | h0 => intro x; exact (sbt_none fun n _ => rfl).symm
  | h1 l a ih =>
    intro x
    obtain ⟨n, t⟩ := a
    rw [fl_snoc, ih x, sbt_sbt]
    refine sbt_congr fun m _ => ?_
    unfold sg
    rw [fl_snoc]
theorem fl_app (l : Kn) (a b : Tp) : fl l (.app a b) = .app (fl l a) (fl l b) := by rw [fl_sbt, fl_sbt, fl_sbt]; rfl
theorem fl_all (l : Kn) (s : ByteArray) (a : Tp) : fl l (.all s a) = .all s (fl l a) := by rw [fl_sbt, fl_sbt]; rfl
theorem fl_mt (l : Kn) (n : Int) : fl l (.mt n) = sg l n := rfl

theorem sg_unknown {n : Int} : ∀ {l : Kn}, n ∉ dom l → sg l n = .mt n := fun {l} => by
  induction l using snoc_ind with
  | h0 => intro _; rfl
  | h1 l a ih =>
    intro h
    obtain ⟨m, t⟩ := a
    simp only [dom, List.map_append, List.map_cons, List.map_nil, List.mem_append, List.mem_singleton, not_or] at h
    unfold sg
    rw [fl_snoc, fl_mt, ih h.1, sbt]
    unfold put1; rw [if_neg h.2]
/-- Nothing that is known is left. -/
theorem fl_gone {l : Kn} (h : Ok l) : ∀ n ∈ dom l, ∀ x, n ∉ mvs (fl l x) := by
  induction l using snoc_ind with
  | h0 => intro n hn; simp [dom] at hn
  | h1 l a ih =>
    obtain ⟨m, t⟩ := a
    obtain ⟨h1, h2, h3⟩ := ok_snoc.1 h
    intro n hn x
    rw [fl_snoc, mem_mvs_sbt]
    rintro ⟨k, hk, hm⟩
    simp only [dom, List.map_append, List.map_cons, List.map_nil, List.mem_append, List.mem_singleton] at hn
    unfold put1 at hm
    rcases hn with hn | rfl
    · split at hm
      · exact ih h1 n hn t hm
      · simp [mvs] at hm; subst hm
        exact ih h1 n hn x hk
    · split at hm
      · exact h3 hm
      · rename_i hne
        simp [mvs] at hm; exact hne hm.symm
/-- What is known is so. -/
theorem sg_known {l : Kn} (h : Ok l) : ∀ n t, (n, t) ∈ l → sg l n = fl l t := by
  induction l using snoc_ind with
  | h0 => intro n t hn; simp at hn
  | h1 l a ih =>
    obtain ⟨m, u⟩ := a
    obtain ⟨h1, h2, h3⟩ := ok_snoc.1 h
    intro n t hn
    unfold sg
    rw [fl_snoc, fl_snoc]
    rcases List.mem_append.1 hn with hn | hn
    · rw [fl_mt, ih h1 n t hn]
    · simp at hn
      obtain ⟨rfl, rfl⟩ := hn
      rw [fl_mt, sg_unknown h2, put1_off h3, sbt]
      unfold put1; rw [if_pos rfl]
theorem dom_nodup {l : Kn} (h : Ok l) : (dom l).Nodup := by
  induction l using snoc_ind with
  | h0 => simp [dom]
  | h1 l a ih =>
    obtain ⟨m, u⟩ := a
    obtain ⟨h1, h2, _⟩ := ok_snoc.1 h
    simp only [dom, List.map_append, List.map_cons, List.map_nil]
    exact List.nodup_append.2 ⟨ih h1, by simp, fun a ha b hb e => by simp at hb; subst hb; subst e; exact h2 ha⟩
theorem getK_some {l : Kn} {n : Int} {t : Tp} (h : getK l n = some t) : (n, t) ∈ l := by
  unfold getK at h
  obtain ⟨q, hq, rfl⟩ := Option.map_eq_some_iff.1 h
  have h1 := List.mem_of_find?_eq_some hq
  have h2 := List.find?_some hq
  obtain ⟨a, b⟩ := q
  simp at h2; subst h2; exact h1
theorem getK_none {l : Kn} {n : Int} : getK l n = none ↔ n ∉ dom l := by
  unfold getK dom
  rw [Option.map_eq_none_iff, List.find?_eq_none]
  simp only [List.mem_map, not_exists, not_and]
  constructor
  · rintro h q hq rfl; exact h q hq (by simp)
  · intro h q hq e; exact h q hq (by simpa using e)
theorem getK_dom {l : Kn} {n : Int} (h : n ∈ dom l) : ∃ t, getK l n = some t := by
  cases hg : getK l n with
  | some t => exact ⟨t, rfl⟩
  | none => exact absurd h (getK_none.1 hg)

/-- These types are what is known. -/
def Solves (θ : Int → Tp) (l : Kn) : Prop := ∀ n t, (n, t) ∈ l → θ n = sbt θ t
theorem sg_solves {l : Kn} (h : Ok l) : Solves (sg l) l := fun n t hn => by rw [sg_known h n t hn, fl_sbt]
/-- Whatever is so by what is known, is so with it put in. -/
theorem solves_fl {θ : Int → Tp} {l : Kn} (h : Solves θ l) : ∀ x, sbt θ (fl l x) = sbt θ x := by
  induction l using snoc_ind with
  | h0 => intro x; rfl
  | h1 l a ih =>
    obtain ⟨m, u⟩ := a
    have hl : Solves θ l := fun n t hn => h n t (List.mem_append_left _ hn)
    intro x
    rw [fl_snoc, sbt_sbt, ← ih hl x]
    refine sbt_congr fun k _ => ?_
    unfold put1
    split
    · rename_i he
      rw [he, ih hl u]; exact (h m u (by simp)).symm
    · rfl
/-- What is known of more is more put in. -/
theorem fl_more {l l' : Kn} (h' : Ok l') (hsub : ∀ q ∈ l, q ∈ l') (x : Tp) : fl l' (fl l x) = fl l' x := by
  rw [fl_sbt l', fl_sbt l']
  exact solves_fl (fun n t hn => sg_solves h' n t (hsub _ hn)) x
theorem fl_idem {l : Kn} (h : Ok l) (x : Tp) : fl l (fl l x) = fl l x := fl_more h (fun _ h => h) x
theorem fl_same {l l' : Kn} (h' : Ok l') (hsub : ∀ q ∈ l, q ∈ l') {a b : Tp} (h : fl l a = fl l b) : fl l' a = fl l' b := by
  rw [← fl_more h' hsub a, h, fl_more h' hsub b]

/-! ### how far one must look -/
def ap (l : Kn) : Nat → Tp → Option Tp
  | 0, _ => none
  | k + 1, .mt n => match getK l n with
    | none => some (.mt n)
    | some x => ap l k x
  | k + 1, .app a b => match ap l k a, ap l k b with
    | some a', some b' => some (.app a' b')
    | _, _ => none
  | k + 1, .all s a => (ap l k a).map (.all s)
  | _ + 1, t => some t
theorem ap_mono {l : Kn} : ∀ {k : Nat} {x y : Tp} {j : Nat}, ap l k x = some y → k ≤ j → ap l j x = some y
  | 0, _, _, _, h, _ => by simp [ap] at h
  | k + 1, x, y, 0, _, hj => by omega
  | k + 1, .mt n, y, j + 1, h, hj => by
    rw [ap] at h ⊢
    split at h
    · exact h
    · exact ap_mono h (by omega)
  | k + 1, .app a b, y, j + 1, h, hj => by
    rw [ap] at h ⊢
    split at h
    · rename_i a' b' ha hb
      rw [ap_mono ha (by omega : k ≤ j), ap_mono hb (by omega : k ≤ j)]; exact h
    · cases h
  | k + 1, .all s a, y, j + 1, h, hj => by
    rw [ap] at h ⊢
    obtain ⟨a', ha, rfl⟩ := Option.map_eq_some_iff.1 h
    rw [ap_mono ha (by omega : k ≤ j)]; rfl
  | k + 1, .no, y, j + 1, h, hj => h
  | k + 1, .var _, y, j + 1, h, hj => h
  | k + 1, .con _, y, j + 1, h, hj => h
theorem getK_snoc {l : Kn} {n : Int} {t : Tp} (hn : n ∉ dom l) (m : Int) : getK (l ++ [(n, t)]) m = if m = n then some t else getK l m := by
  unfold getK
  rw [List.find?_append]
  by_cases h : m = n
  · subst h
    rw [if_pos rfl]
    have : l.find? (fun q => q.1 == m) = none := by
      rw [List.find?_eq_none]; intro q hq e
      exact hn (List.mem_map.2 ⟨q, hq, by simpa using e⟩)
    rw [this]; simp
  · rw [if_neg h]
    cases hf : l.find? (fun q => q.1 == m) with
    | some q => rfl
    | none =>
      have : ([(n, t)] : Kn).find? (fun q => q.1 == m) = none := by
        rw [List.find?_eq_none]; intro q hq e; simp at hq; subst hq; simp at e; exact h e.symm
      simp only [Option.none_or, this]
/-- One more is known, that does not come here. -/
theorem ap_off {l : Kn} {n : Int} {t : Tp} (hn : n ∉ dom l) : ∀ {k : Nat} {x y : Tp}, ap l k x = some y → n ∉ mvs y → ap (l ++ [(n, t)]) k x = some y
  | 0, _, _, h, _ => by simp [ap] at h
  | k + 1, .mt m, y, h, hy => by
    rw [ap, getK_snoc hn]
    rw [ap] at h
    split at h
    · rename_i hg
      injection h with h; subst h
      have : m ≠ n := fun e => hy (by simp [mvs, e])
      rw [if_neg this, hg]
    · rename_i u hg
      have : m ≠ n := fun e => by subst e; rw [getK_none.2 hn] at hg; cases hg
      rw [if_neg this, hg]; exact ap_off hn h hy
  | k + 1, .app a b, y, h, hy => by
    rw [ap] at h ⊢
    split at h
    · rename_i a' b' ha hb
      injection h with h; subst h
      simp only [mvs, List.mem_append, not_or] at hy
      rw [ap_off hn ha hy.1, ap_off hn hb hy.2]
    · cases h
  | k + 1, .all s a, y, h, hy => by
    rw [ap] at h ⊢
    obtain ⟨a', ha, rfl⟩ := Option.map_eq_some_iff.1 h
    rw [ap_off hn ha hy]; rfl
  | k + 1, .no, y, h, _ => h
  | k + 1, .var _, y, h, _ => h
  | k + 1, .con _, y, h, _ => h
theorem ap_on {l : Kn} {n : Int} {t t' : Tp} {j : Nat} (hn : n ∉ dom l) (ht : ap l j t = some t') (hnt : n ∉ mvs t') : ∀ {k : Nat} {x y : Tp}, ap l k x = some y → ap (l ++ [(n, t)]) (k + j) x = some (sbt (put1 n t') y)
  | 0, _, _, h => by simp [ap] at h
  | k + 1, .mt m, y, h => by
    rw [show k + 1 + j = (k + j) + 1 by omega, ap, getK_snoc hn]
    rw [ap] at h
    split at h
    · rename_i hg
      injection h with h; subst h
      rw [sbt]; unfold put1
      by_cases he : m = n
      · rw [if_pos he, if_pos he]; simp only
        exact ap_mono (ap_off hn ht hnt) (by omega)
      · rw [if_neg he, if_neg he, hg]
    · rename_i u hg
      have : m ≠ n := fun e => by subst e; rw [getK_none.2 hn] at hg; cases hg
      rw [if_neg this, hg]; exact ap_on hn ht hnt h
  | k + 1, .app a b, y, h => by
    rw [show k + 1 + j = (k + j) + 1 by omega]
    rw [ap] at h ⊢
    split at h
    · rename_i a' b' ha hb
      injection h with h; subst h
      rw [ap_on hn ht hnt ha, ap_on hn ht hnt hb]; rfl
    · cases h
  | k + 1, .all s a, y, h => by
    rw [show k + 1 + j = (k + j) + 1 by omega]
    rw [ap] at h ⊢
    obtain ⟨a', ha, rfl⟩ := Option.map_eq_some_iff.1 h
    rw [ap_on hn ht hnt ha]; rfl
  | k + 1, .no, y, h => by
    have h : some (Tp.no) = some y := h
    injection h with h; subst h
    rw [show k + 1 + j = (k + j) + 1 by omega]; rfl
  | k + 1, .var s, y, h => by
    have h : some (Tp.var s) = some y := h
    injection h with h; subst h
    rw [show k + 1 + j = (k + j) + 1 by omega]; rfl
  | k + 1, .con s, y, h => by
    have h : some (Tp.con s) = some y := h
    injection h with h; subst h
    rw [show k + 1 + j = (k + j) + 1 by omega]; rfl
theorem ap_nil : ∀ x : Tp, ∃ k, ap [] k x = some x
  | .mt n => ⟨1, rfl⟩
  | .app a b => by
    obtain ⟨j, hj⟩ := ap_nil a
    obtain ⟨k, hk⟩ := ap_nil b
    exact ⟨max j k + 1, by rw [ap, ap_mono hj (Nat.le_max_left j k), ap_mono hk (Nat.le_max_right j k)]⟩
  | .all s a => by
    obtain ⟨j, hj⟩ := ap_nil a
    exact ⟨j + 1, by rw [ap, hj]; rfl⟩
  | .no => ⟨1, rfl⟩
  | .var _ => ⟨1, rfl⟩
  | .con _ => ⟨1, rfl⟩
/-- One comes to an end, and it is all that is known put in. -/
theorem ap_fl {l : Kn} (h : Ok l) : ∀ x, ∃ k, ap l k x = some (fl l x) := by
  induction l using snoc_ind with
  | h0 => exact ap_nil
  | h1 l a ih =>
    obtain ⟨n, t⟩ := a
    obtain ⟨h1, h2, h3⟩ := ok_snoc.1 h
    intro x
    obtain ⟨j, hj⟩ := ih h1 t
    obtain ⟨k, hk⟩ := ih h1 x
    exact ⟨k + j, by rw [fl_snoc]; exact ap_on h2 hj h3 hk⟩
end Go.Proofs.YtigifkjcghkiiaaDoor
