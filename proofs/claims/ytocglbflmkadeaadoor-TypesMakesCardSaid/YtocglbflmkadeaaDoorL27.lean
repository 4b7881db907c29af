/- A part of the proof of a given statement: contracts of functions of the program, under no condition but those that each states. -/
import Derived.Test.YtocglbflmkadeaaDoorL26
set_option linter.unusedSimpArgs false
set_option linter.unusedVariables false
namespace Go.Proofs.YtocglbflmkadeaaDoor
open Go Fp
set_option maxRecDepth 100000
set_option maxHeartbeats 8000000

/-- A byte of a word. -/
def tk (c : UInt8) : Bool := (48 ≤ c && c ≤ 57) || (65 ≤ c && c ≤ 90) || (97 ≤ c && c ≤ 122)
abbrev by' (s : ByteArray) : List UInt8 := s.data.toList
theorem by_app (a b : ByteArray) : by' (a ++ b) = by' a ++ by' b := ba_app a b
theorem by_ext {a b : ByteArray} (h : by' a = by' b) : a = b := by
  cases a; cases b; simpa [by', Array.toList_inj] using h

theorem tk_dig : ∀ d : Fin 10, tk (UInt8.ofNat (48 + d.val)) = true := by decide
theorem tk_let : ∀ d : Fin 26, tk (UInt8.ofNat (97 + d.val)) = true := by decide
theorem dcm_tk (n : Nat) : ∀ c ∈ by' (dcm n), tk c = true := by
  induction n using Nat.strongRecOn with
  | _ n ih =>
    intro c hc
    by_cases h : n < 10
    · rw [dcm_small h] at hc
      rw [List.mem_singleton.1 (show c ∈ [UInt8.ofNat (48 + n)] from hc)]; exact tk_dig ⟨n, h⟩
    · rw [dcm_big h, by_app] at hc
      rcases List.mem_append.1 hc with hc | hc
      · exact ih (n / 10) (by omega) c hc
      · rw [List.mem_singleton.1 (show c ∈ [UInt8.ofNat (48 + n % 10)] from hc)]; exact tk_dig ⟨n % 10, by omega⟩
theorem lett_tk (n : Nat) : ∀ c ∈ by' (lett n), tk c = true := by
  intro c hc
  unfold lett at hc
  split at hc
  · rw [List.mem_singleton.1 (show c ∈ [UInt8.ofNat (97 + n % 26)] from hc)]; exact tk_let ⟨n % 26, by omega⟩
  · rw [by_app] at hc
    rcases List.mem_append.1 hc with hc | hc
    · rw [List.mem_singleton.1 (show c ∈ [UInt8.ofNat (97 + n % 26)] from hc)]; exact tk_let ⟨n % 26, by omega⟩
    · exact dcm_tk _ c hc
theorem dcm_inj {a b : Nat} (h : by' (dcm a) = by' (dcm b)) : a = b := by rw [← dcm_digs a, ← dcm_digs b]; exact congrArg digs h

/-- Nothing, or no byte of a word stands first. -/
def Ends (r : List UInt8) : Prop := ∀ c, r[0]? = some c → tk c = false
theorem ends_nil : Ends [] := fun c h => by simp at h
theorem ends_cons {c : UInt8} {r : List UInt8} (h : tk c = false) : Ends (c :: r) := fun d hd => by simp at hd; subst hd; exact h

theorem word : ∀ {l m r q : List UInt8}, (∀ c ∈ l, tk c = true) → (∀ c ∈ m, tk c = true) → Ends r → Ends q → l ++ r = m ++ q → l = m ∧ r = q
  | [], [], r, q, _, _, _, _, h => ⟨rfl, h⟩
  | [], c :: m, r, q, _, hm, hr, _, h => by
    have h : r = c :: (m ++ q) := h
    subst h
    have := hr c (by simp)
    rw [hm c (by simp)] at this; cases this
  | c :: l, [], r, q, hl, _, _, hq, h => by
    have h : c :: (l ++ r) = q := h
    subst h
    have := hq c (by simp)
    rw [hl c (by simp)] at this; cases this
  | c :: l, d :: m, r, q, hl, hm, hr, hq, h => by
    simp only [List.cons_append, List.cons.injEq] at h
    obtain ⟨rfl, h⟩ := h
    obtain ⟨rfl, h2⟩ := word (fun x hx => hl x (by simp [hx])) (fun x hx => hm x (by simp [hx])) hr hq h
    exact ⟨rfl, h2⟩

def ser : Db → List UInt8
  | .mt n => 63 :: by' (dcm n.toNat)
  | .bv i => 35 :: by' (dcm i)
  | .fr s => 39 :: by' s
  | .con s => by' s
  | .all a => 91 :: (ser a ++ [93])
  | .app a b => 40 :: (ser a ++ 32 :: (ser b ++ [41]))
  | .no => []
def Vd : Db → Prop
  | .mt n => ∃ k : Nat, n = (k : Int) ∧ k < 10
  | .bv _ => True
  | .fr s => ∀ c ∈ by' s, tk c = true
  | .con s => s ∈ small6
  | .all a => Vd a
  | .app a b => Vd a ∧ Vd b
  | .no => False

theorem nl_ser (t : Tp) : ∀ x, by' (nl t x) = ser (db t x.reverse) := by
  induction t with
  | no => intro x; rfl
  | mt n => intro x; rw [nl, by_app]; rfl
  | con s => intro x; rfl
  | var s =>
    intro x
    simp only [nl, db, memb_rev]
    split
    · rw [by_app]; rfl
    · rw [by_app]; rfl
  | app a b iha ihb =>
    intro x
    simp only [nl, by_app, iha, ihb, db, ser]
    simp [by']
  | all s a ih =>
    intro x
    simp only [nl, by_app, ih, db, ser, List.reverse_append, List.reverse_cons, List.reverse_nil, List.nil_append, List.singleton_append]
    simp [by']

theorem small6_cases {s : ByteArray} (h : s ∈ small6) : by' s = [73, 110, 116] ∨ by' s = [66, 111, 111, 108] ∨ by' s = [76] ∨ by' s = [80] ∨ by' s = [70] ∨ by' s = [45, 62] := by
  unfold small6 at h
  simp at h
  rcases h with rfl | rfl | rfl | rfl | rfl | rfl <;> simp [by']

theorem con_word {s u : ByteArray} (hs : s ∈ small6) (hu : u ∈ small6) {r q : List UInt8} (hr : Ends r) (hq : Ends q) (h : by' s ++ r = by' u ++ q) : s = u ∧ r = q := by
  have dash : ∀ {s : ByteArray} {l r q : List UInt8}, by' s ++ r = l ++ q → by' s = [45, 62] → l ≠ [] → l[0]? ≠ some 45 → False := fun {s l r q} h h1 h2 h3 => by
    rw [h1] at h
    cases l with
    | nil => exact h2 rfl
    | cons c l => simp at h; exact h3 (by simp [h.1])
  by_cases h1 : by' s = [45, 62]
  · by_cases h2 : by' u = [45, 62]
    · rw [h1, h2] at h
      exact ⟨by_ext (h1.trans h2.symm), by simpa using h⟩
    · refine (dash h h1 ?_ ?_).elim
      · rcases small6_cases hu with e | e | e | e | e | e <;> rw [e] <;> simp
      · rcases small6_cases hu with e | e | e | e | e | e <;> first | exact absurd e h2 | (rw [e]; simp)
  · by_cases h2 : by' u = [45, 62]
    · refine (dash h.symm h2 ?_ ?_).elim
      · rcases small6_cases hs with e | e | e | e | e | e <;> rw [e] <;> simp
      · rcases small6_cases hs with e | e | e | e | e | e <;> first | exact absurd e h1 | (rw [e]; simp)
    · have w : ∀ {s : ByteArray}, s ∈ small6 → by' s ≠ [45, 62] → ∀ c ∈ by' s, tk c = true := fun {s} hs h1 => by
        rcases small6_cases hs with e | e | e | e | e | e <;> first | exact absurd e h1 | (rw [e]; decide)
      obtain ⟨p1, p2⟩ := word (w hs h1) (w hu h2) hr hq h
      exact ⟨by_ext p1, p2⟩

theorem ser_inj (d : Db) : ∀ (e : Db) (r q : List UInt8), Vd d → Vd e → Ends r → Ends q → ser d ++ r = ser e ++ q → d = e ∧ r = q := by
  induction d with
  | no => intro e r q h; exact h.elim
  | mt n =>
    intro e r q hd he hr hq h
    obtain ⟨k, rfl, _⟩ := hd
    cases e with
    | mt m =>
      obtain ⟨j, rfl, _⟩ := he
      simp only [ser, List.cons_append, List.cons.injEq, true_and, Int.toNat_natCast] at h
      obtain ⟨h1, h2⟩ := word (dcm_tk _) (dcm_tk _) hr hq h
      exact ⟨by rw [dcm_inj h1], h2⟩
    | con s => rcases small6_cases he with e | e | e | e | e | e <;> simp [ser, e] at h
    | no => exact he.elim
    | _ => simp [ser] at h
  | bv n =>
    intro e r q hd he hr hq h
    cases e with
    | bv m =>
      simp only [ser, List.cons_append, List.cons.injEq, true_and] at h
      obtain ⟨h1, h2⟩ := word (dcm_tk _) (dcm_tk _) hr hq h
      exact ⟨by rw [dcm_inj h1], h2⟩
    | con s => rcases small6_cases he with e | e | e | e | e | e <;> simp [ser, e] at h
    | no => exact he.elim
    | _ => simp [ser] at h
  | fr s =>
    intro e r q hd he hr hq h
    cases e with
    | fr u =>
      simp only [ser, List.cons_append, List.cons.injEq, true_and] at h
      obtain ⟨h1, h2⟩ := word hd he hr hq h
      exact ⟨by rw [by_ext h1], h2⟩
    | con s => rcases small6_cases he with e | e | e | e | e | e <;> simp [ser, e] at h
    | no => exact he.elim
    | _ => simp [ser] at h
  | con s =>
    intro e r q hd he hr hq h
    cases e with
    | con u =>
      obtain ⟨rfl, h2⟩ := con_word hd he hr hq h
      exact ⟨rfl, h2⟩
    | no => exact he.elim
    | _ => rcases small6_cases hd with e | e | e | e | e | e <;> simp [ser, e] at h
  | all a ih =>
    intro e r q hd he hr hq h
    cases e with
    | all b =>
      simp only [ser, List.cons_append, List.cons.injEq, true_and, List.append_assoc] at h
      obtain ⟨rfl, h2⟩ := ih b _ _ hd he (ends_cons (by decide)) (ends_cons (by decide)) h
      exact ⟨rfl, by simpa using h2⟩
    | con s => rcases small6_cases he with e | e | e | e | e | e <;> simp [ser, e] at h
    | no => exact he.elim
    | _ => simp [ser] at h
  | app a b iha ihb =>
    intro e r q hd he hr hq h
    cases e with
    | app c d =>
      simp only [ser, List.cons_append, List.cons.injEq, true_and, List.append_assoc] at h
      obtain ⟨rfl, h2⟩ := iha c _ _ hd.1 he.1 (ends_cons (by decide)) (ends_cons (by decide)) h
      simp only [List.cons.injEq, true_and] at h2
      obtain ⟨rfl, h3⟩ := ihb d _ _ hd.2 he.2 (ends_cons (by decide)) (ends_cons (by decide)) h2
      exact ⟨rfl, by simpa using h3⟩
    | con s => rcases small6_cases he with e | e | e | e | e | e <;> simp [ser, e] at h
    | no => exact he.elim
    | _ => simp [ser] at h

theorem db_vd {K : Nat} (t : Tp) : ∀ e, LowT K t → Nm t → Vd (db t e) := by
  induction t with
  | no => exact fun _ _ h => h
  | mt n => exact fun _ _ h => h
  | con s => exact fun _ _ h => h
  | var s =>
    intro e h _
    simp only [db]
    split
    · trivial
    · obtain ⟨n, _, rfl⟩ := h
      exact lett_tk n
  | app a b iha ihb => exact fun e h1 h2 => ⟨iha e h1.1 h2.1, ihb e h1.2 h2.2⟩
  | all s a ih => exact fun e h1 h2 => ih _ h1.2 h2

theorem nl_iff {K : Nat} {a b : Tp} (ha : LowT K a) (hb : LowT K b) (na : Nm a) (nb : Nm b) : nl a [] = nl b [] ↔ smb a b [] [] = true := by
  rw [smb_db a b [] [] rfl]
  constructor
  · intro h
    have h1 := nl_ser a []
    have h2 := nl_ser b []
    rw [h] at h1
    rw [h1] at h2
    exact (ser_inj _ _ [] [] (db_vd a _ ha na) (db_vd b _ hb nb) ends_nil ends_nil (by rw [h2])).1
  · intro h
    refine by_ext ?_
    rw [nl_ser, nl_ser, h]
end Go.Proofs.YtocglbflmkadeaaDoor
