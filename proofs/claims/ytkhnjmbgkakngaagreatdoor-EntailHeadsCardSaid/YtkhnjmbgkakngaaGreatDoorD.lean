/- A part of the proof of a given statement: contracts of functions of the program, under no condition but those that each states. -/
import Derived.Test.YtkhnjmbgkakngaaGreatDoorC
import Derived.Test.YtkhnjmbgkakngaaGreatDoorFpL
set_option linter.unusedSimpArgs false
set_option linter.unusedVariables false
namespace Go.Proofs.YtkhnjmbgkakngaaGreatDoor
open Go Fp
set_option maxRecDepth 100000
set_option maxHeartbeats 8000000

theorem sub_low (t : Tp) : ∀ (K : Nat) (ps : Env'), Fit K t ps → LowT (K + dp t) (sub t ps) := by
  induction t with
  | var s =>
    intro K ps h
    simp only [sub]
    cases hl : look s ps with
    | none => exact h.low.mono (by omega)
    | some u => exact (h.lows _ (look_mem hl)).mono (by omega)
  | app a b iha ihb =>
    intro K ps h
    have h1 := iha K ps h.app.1
    have h2 := ihb K ps h.app.2
    exact ⟨h1.mono (by simp only [dp]; omega), h2.mono (by simp only [dp]; omega)⟩
  | all s a ih =>
    intro K ps h
    simp only [sub]
    split
    · obtain ⟨h1, h2⟩ := h.all1
      have h3 := ih _ _ h2
      exact ⟨⟨_, by simp only [dp]; omega, rfl⟩, h3.mono (by simp only [dp]; omega)⟩
    · have h3 := ih _ _ h.all0
      exact ⟨h.low.1.mono (by omega), h3.mono (by simp only [dp]; omega)⟩
  | _ => intro K ps h; trivial

theorem sub_dp {D : Nat} (t : Tp) : ∀ ps : Env', (∀ p ∈ ps, dp p.2 ≤ D) → dp (sub t ps) ≤ dp t + D := by
  induction t with
  | var s =>
    intro ps h
    simp only [sub]
    cases hl : look s ps with
    | none => simp [dp]
    | some u => have : dp u ≤ D := h _ (look_mem hl); simp only [dp, Option.getD_some]; omega
  | app a b iha ihb =>
    intro ps h
    have h1 := iha ps h
    have h2 := ihb ps h
    simp only [sub, dp]; omega
  | all s a ih =>
    intro ps h
    simp only [sub]
    split
    · have h3 := ih (kept s (fv a) ps ++ [(s, .var (lett (ff (caught (kept s (fv a) ps) ++ fv a))))]) (fun p hp => by
        rcases List.mem_append.1 hp with hp | hp
        · exact h p (kept_mem hp)
        · simp at hp; subst hp; simp [dp])
      simp only [dp]; omega
    · have h3 := ih (kept s (fv a) ps) (fun p hp => h p (kept_mem hp))
      simp only [dp]; omega
  | _ => intro ps h; simp [sub, dp]

end Go.Proofs.YtkhnjmbgkakngaaGreatDoor

namespace Go.Proofs.YtkhnjmbgkakngaaGreatDoor
open Go Fp
set_option maxRecDepth 100000
set_option maxHeartbeats 8000000

/-- Constructors and numbers of a small world. -/
def Nm : Tp → Prop
  | .app a b => Nm a ∧ Nm b
  | .all _ a => Nm a
  | .con s => s ∈ small6
  | .mt n => ∃ k : Nat, n = (k : Int) ∧ k < 10
  | .var _ => True
  | .no => False
theorem good_nm {t : Tp} (h : good t) : Nm t := by
  induction t with
  | no => exact h
  | mt n => exact h
  | con s => exact h
  | var s => trivial
  | app a b iha ihb => exact ⟨iha h.1, ihb h.2⟩
  | all s a ih => exact ih h.2
theorem sub_nm (t : Tp) : ∀ ps : Env', Nm t → (∀ p ∈ ps, Nm p.2) → Nm (sub t ps) := by
  induction t with
  | var s =>
    intro ps _ h
    simp only [sub]
    cases hl : look s ps with
    | none => trivial
    | some u => exact h _ (look_mem hl)
  | app a b iha ihb => exact fun ps h1 h => ⟨iha ps h1.1 h, ihb ps h1.2 h⟩
  | all s a ih =>
    intro ps h1 h
    simp only [sub]
    split
    · exact ih _ h1 (fun p hp => by
        rcases List.mem_append.1 hp with hp | hp
        · exact h p (kept_mem hp)
        · simp at hp; subst hp; trivial)
    · exact ih _ h1 (fun p hp => h p (kept_mem hp))
  | _ => exact fun _ h _ => h

theorem low_size {K : Nat} {s : ByteArray} (h : Low K s) (hK : K ≤ 2600) : s.size ≤ 3 := by
  obtain ⟨n, hn, rfl⟩ := h
  unfold lett
  split
  · rw [sz1]; omega
  · rw [ByteArray.size_append, sz1]
    have := dcm_size 2 (n / 26) (by omega) (by decide)
    omega

/-- A type without names, as a text. -/
def nl : Tp → List ByteArray → ByteArray
  | .mt n, _ => ⟨#[63]⟩ ++ dcm n.toNat
  | .var s, x => if memb s x then ⟨#[35]⟩ ++ dcm (ixN x.reverse s) else ⟨#[39]⟩ ++ s
  | .con s, _ => s
  | .all s a, x => (⟨#[91]⟩ ++ nl a (x ++ [s])) ++ ⟨#[93]⟩
  | .app a b, x => ((((⟨#[40]⟩ ++ nl a x) ++ ⟨#[32]⟩) ++ nl b x) ++ ⟨#[41]⟩)
  | .no, _ => .empty

theorem nl_size {K : Nat} (hK : K ≤ 2600) (t : Tp) : ∀ x : List ByteArray, LowT K t → Nm t → x.length + t.sz ≤ 1000000 → (nl t x).size + 3 ≤ 20 * t.sz := by
  induction t with
  | no => intro x _ h; exact h.elim
  | mt n =>
    intro x _ h _
    obtain ⟨k, rfl, hk⟩ := h
    have := dcm_size 1 k (by omega) (by decide)
    simp only [nl, ByteArray.size_append, sz1, Int.toNat_natCast, Tp.sz]; omega
  | con s => intro x _ h _; have := small6_size s h; simp only [nl, Tp.sz]; omega
  | var s =>
    intro x h _ hl
    simp only [nl, Tp.sz] at hl ⊢
    split
    · rename_i hm
      have := ixN_lt (List.mem_reverse.2 (memb_iff.1 hm))
      rw [List.length_reverse] at this
      have := dcm_size 6 (ixN x.reverse s) (by omega) (by decide)
      rw [ByteArray.size_append, sz1]; omega
    · have := low_size h hK
      rw [ByteArray.size_append, sz1]; omega
  | app a b iha ihb =>
    intro x h1 h2 hl
    simp only [Tp.sz] at hl
    have := iha x h1.1 h2.1 (by omega)
    have := ihb x h1.2 h2.2 (by omega)
    simp only [nl, ByteArray.size_append, sz1, Tp.sz]; omega
  | all s a ih =>
    intro x h1 h2 hl
    simp only [Tp.sz] at hl
    have := ih (x ++ [s]) h1.2 h2 (by simp; omega)
    simp only [nl, ByteArray.size_append, sz1, Tp.sz]; omega

theorem wrap_sub {n : Int} (h0 : -1 ≤ n) (h1 : n < 9223372036854775807) : IntKind.i64.wrap n = n := wrap_in (by unfold InR; omega)

end Go.Proofs.YtkhnjmbgkakngaaGreatDoor

namespace Go.Proofs.YtkhnjmbgkakngaaGreatDoor
open Go Fp
set_option maxRecDepth 100000
set_option maxHeartbeats 8000000

/-- A byte of a word. -/
def tk (c : UInt8) : Bool := (48 ≤ c && c ≤ 57) || (65 ≤ c && c ≤ 90) || (97 ≤ c && c ≤ 122)
abbrev by' (s : ByteArray) : List UInt8 := s.data.toList
theorem by_app (a b : ByteArray) : by' (a ++ b) = by' a ++ by' b := ba_app a b
theorem by_ext {a b : ByteArray} (h : by' a = by' b) : a = b := by
  cases a; cases b; simpa [by', Array.toList_inj] using h

theorem tk_dig : ∀ d : Fin 10, tk (UInt8.ofNat (48 + d.val)) = true := by decide
theorem tk_let : ∀ d : Fin 26, tk (UInt8.ofNat (97 + d.val)) = true := by decide
theorem dcm_tk (n : Nat) : ∀ c ∈ by' (dcm n), tk c = true := by
  induction n using Nat.strongRecOn with
  | _ n ih =>
    intro c hc
    by_cases h : n < 10
    · rw [dcm_small h] at hc
      rw [List.mem_singleton.1 (show c ∈ [UInt8.ofNat (48 + n)] from hc)]; exact tk_dig ⟨n, h⟩
    · rw [dcm_big h, by_app] at hc
      rcases List.mem_append.1 hc with hc | hc
      · exact ih (n / 10) (by omega) c hc
      · rw [List.mem_singleton.1 (show c ∈ [UInt8.ofNat (48 + n % 10)] from hc)]; exact tk_dig ⟨n % 10, by omega⟩
theorem lett_tk (n : Nat) : ∀ c ∈ by' (lett n), tk c = true := by
  intro c hc
  unfold lett at hc
  split at hc
  · rw [List.mem_singleton.1 (show c ∈ [UInt8.ofNat (97 + n % 26)] from hc)]; exact tk_let ⟨n % 26, by omega⟩
  · rw [by_app] at hc
    rcases List.mem_append.1 hc with hc | hc
    · rw [List.mem_singleton.1 (show c ∈ [UInt8.ofNat (97 + n % 26)] from hc)]; exact tk_let ⟨n % 26, by omega⟩
    · exact dcm_tk _ c hc
theorem dcm_inj {a b : Nat} (h : by' (dcm a) = by' (dcm b)) : a = b := by rw [← dcm_digs a, ← dcm_digs b]; exact congrArg digs h

/-- Nothing, or no byte of a word stands first. -/
def Ends (r : List UInt8) : Prop := ∀ c, r[0]? = some c → tk c = false
theorem ends_nil : Ends [] := fun c h => by simp at h
theorem ends_cons {c : UInt8} {r : List UInt8} (h : tk c = false) : Ends (c :: r) := fun d hd => by simp at hd; subst hd; exact h

theorem word : ∀ {l m r q : List UInt8}, (∀ c ∈ l, tk c = true) → (∀ c ∈ m, tk c = true) → Ends r → Ends q → l ++ r = m ++ q → l = m ∧ r = q
  | [], [], r, q, _, _, _, _, h => ⟨rfl, h⟩
  | [], c :: m, r, q, _, hm, hr, _, h => by
    have h : r = c :: (m ++ q) := h
    subst h
    have := hr c (by simp)
    rw [hm c (by simp)] at this; cases this
  | c :: l, [], r, q, hl, _, _, hq, h => by
    have h : c :: (l ++ r) = q := h
    subst h
    have := hq c (by simp)
    rw [hl c (by simp)] at this; cases this
  | c :: l, d :: m, r, q, hl, hm, hr, hq, h => by
    simp only [List.cons_append, List.cons.injEq] at h
    obtain ⟨rfl, h⟩ := h
    obtain ⟨rfl, h2⟩ := word (fun x hx => hl x (by simp [hx])) (fun x hx => hm x (by simp [hx])) hr hq h
    exact ⟨rfl, h2⟩

def ser : Db → List UInt8
  | .mt n => 63 :: by' (dcm n.toNat)
  | .bv i => 35 :: by' (dcm i)
  | .fr s => 39 :: by' s
  | .con s => by' s
  | .all a => 91 :: (ser a ++ [93])
  | .app a b => 40 :: (ser a ++ 32 :: (ser b ++ [41]))
  | .no => []
def Vd : Db → Prop
  | .mt n => ∃ k : Nat, n = (k : Int) ∧ k < 10
  | .bv _ => True
  | .fr s => ∀ c ∈ by' s, tk c = true
  | .con s => s ∈ small6
  | .all a => Vd a
  | .app a b => Vd a ∧ Vd b
  | .no => False

theorem nl_ser (t : Tp) : ∀ x, by' (nl t x) = ser (db t x.reverse) := by
  induction t with
  | no => intro x; rfl
  | mt n => intro x; rw [nl, by_app]; rfl
  | con s => intro x; rfl
  | var s =>
    intro x
    simp only [nl, db, memb_rev]
    split
    · rw [by_app]; rfl
    · rw [by_app]; rfl
  | app a b iha ihb =>
    intro x
    simp only [nl, by_app, iha, ihb, db, ser]
    simp [by']
  | all s a ih =>
    intro x
    simp only [nl, by_app, ih, db, ser, List.reverse_append, List.reverse_cons, List.reverse_nil, List.nil_append, List.singleton_append]
    simp [by']

theorem small6_cases {s : ByteArray} (h : s ∈ small6) : by' s = [73, 110, 116] ∨ by' s = [66, 111, 111, 108] ∨ by' s = [76] ∨ by' s = [80] ∨ by' s = [70] ∨ by' s = [45, 62] := by
  unfold small6 at h
  simp at h
  rcases h with rfl | rfl | rfl | rfl | rfl | rfl <;> simp [by']

theorem con_word {s u : ByteArray} (hs : s ∈ small6) (hu : u ∈ small6) {r q : List UInt8} (hr : Ends r) (hq : Ends q) (h : by' s ++ r = by' u ++ q) : s = u ∧ r = q := by
  have dash : ∀ {s : ByteArray} {l r q : List UInt8}, by' s ++ r = l ++ q → by' s = [45, 62] → l ≠ [] → l[0]? ≠ some 45 → False := fun {s l r q} h h1 h2 h3 => by
    rw [h1] at h
    cases l with
    | nil => exact h2 rfl
    | cons c l => simp at h; exact h3 (by simp [h.1])
  by_cases h1 : by' s = [45, 62]
  · by_cases h2 : by' u = [45, 62]
    · rw [h1, h2] at h
      exact ⟨by_ext (h1.trans h2.symm), by simpa using h⟩
    · refine (dash h h1 ?_ ?_).elim
      · rcases small6_cases hu with e | e | e | e | e | e <;> rw [e] <;> simp
      · rcases small6_cases hu with e | e | e | e | e | e <;> first | exact absurd e h2 | (rw [e]; simp)
  · by_cases h2 : by' u = [45, 62]
    · refine (dash h.symm h2 ?_ ?_).elim
      · rcases small6_cases hs with e | e | e | e | e | e <;> rw [e] <;> simp
      · rcases small6_cases hs with e | e | e | e | e | e <;> first | exact absurd e h1 | (rw [e]; simp)
    · have w : ∀ {s : ByteArray}, s ∈ small6 → by' s ≠ [45, 62] → ∀ c ∈ by' s, tk c = true := fun {s} hs h1 => by
        rcases small6_cases hs with e | e | e | e | e | e <;> first | exact absurd e h1 | (rw [e]; decide)
      obtain ⟨p1, p2⟩ := word (w hs h1) (w hu h2) hr hq h
      exact ⟨by_ext p1, p2⟩

theorem ser_inj (d : Db) : ∀ (e : Db) (r q : List UInt8), Vd d → Vd e → Ends r → Ends q → ser d ++ r = ser e ++ q → d = e ∧ r = q := by
  induction d with
  | no => intro e r q h; exact h.elim
  | mt n =>
    intro e r q hd he hr hq h
    obtain ⟨k, rfl, _⟩ := hd
    cases e with
    | mt m =>
      obtain ⟨j, rfl, _⟩ := he
      simp only [ser, List.cons_append, List.cons.injEq, true_and, Int.toNat_natCast] at h
      obtain ⟨h1, h2⟩ := word (dcm_tk _) (dcm_tk _) hr hq h
      exact ⟨by rw [dcm_inj h1], h2⟩
    | con s => rcases small6_cases he with e | e | e | e | e | e <;> simp [ser, e] at h
    | no => exact he.elim
    | _ => simp [ser] at h
  | bv n =>
    intro e r q hd he hr hq h
    cases e with
    | bv m =>
      simp only [ser, List.cons_append, List.cons.injEq, true_and] at h
      obtain ⟨h1, h2⟩ := word (dcm_tk _) (dcm_tk _) hr hq h
      exact ⟨by rw [dcm_inj h1], h2⟩
    | con s => rcases small6_cases he with e | e | e | e | e | e <;> simp [ser, e] at h
    | no => exact he.elim
    | _ => simp [ser] at h
  | fr s =>
    intro e r q hd he hr hq h
    cases e with
    | fr u =>
      simp only [ser, List.cons_append, List.cons.injEq, true_and] at h
      obtain ⟨h1, h2⟩ := word hd he hr hq h
      exact ⟨by rw [by_ext h1], h2⟩
    | con s => rcases small6_cases he with e | e | e | e | e | e <;> simp [ser, e] at h
    | no => exact he.elim
    | _ => simp [ser] at h
  | con s =>
    intro e r q hd he hr hq h
    cases e with
    | con u =>
      obtain ⟨rfl, h2⟩ := con_word hd he hr hq h
      exact ⟨rfl, h2⟩
    | no => exact he.elim
    | _ => rcases small6_cases hd with e | e | e | e | e | e <;> simp [ser, e] at h
  | all a ih =>
    intro e r q hd he hr hq h
    cases e with
    | all b =>
      simp only [ser, List.cons_append, List.cons.injEq, true_and, List.append_assoc] at h
      obtain ⟨rfl, h2⟩ := ih b _ _ hd he (ends_cons (by decide)) (ends_cons (by decide)) h
      exact ⟨rfl, by simpa using h2⟩
    | con s => rcases small6_cases he with e | e | e | e | e | e <;> simp [ser, e] at h
    | no => exact he.elim
    | _ => simp [ser] at h
  | app a b iha ihb =>
    intro e r q hd he hr hq h
    cases e with
    | app c d =>
      simp only [ser, List.cons_append, List.cons.injEq, true_and, List.append_assoc] at h
      obtain ⟨rfl, h2⟩ := iha c _ _ hd.1 he.1 (ends_cons (by decide)) (ends_cons (by decide)) h
      simp only [List.cons.injEq, true_and] at h2
      obtain ⟨rfl, h3⟩ := ihb d _ _ hd.2 he.2 (ends_cons (by decide)) (ends_cons (by decide)) h2
      exact ⟨rfl, by simpa using h3⟩
    | con s => rcases small6_cases he with e | e | e | e | e | e <;> simp [ser, e] at h
    | no => exact he.elim
    | _ => simp [ser] at h

theorem db_vd {K : Nat} (t : Tp) : ∀ e, LowT K t → Nm t → Vd (db t e) := by
  induction t with
  | no => exact fun _ _ h => h
  | mt n => exact fun _ _ h => h
  | con s => exact fun _ _ h => h
  | var s =>
    intro e h _
    simp only [db]
    split
    · trivial
    · obtain ⟨n, _, rfl⟩ := h
      exact lett_tk n
  | app a b iha ihb => exact fun e h1 h2 => ⟨iha e h1.1 h2.1, ihb e h1.2 h2.2⟩
  | all s a ih => exact fun e h1 h2 => ih _ h1.2 h2

theorem nl_iff {K : Nat} {a b : Tp} (ha : LowT K a) (hb : LowT K b) (na : Nm a) (nb : Nm b) : nl a [] = nl b [] ↔ smb a b [] [] = true := by
  rw [smb_db a b [] [] rfl]
  constructor
  · intro h
    have h1 := nl_ser a []
    have h2 := nl_ser b []
    rw [h] at h1
    rw [h1] at h2
    exact (ser_inj _ _ [] [] (db_vd a _ ha na) (db_vd b _ hb nb) ends_nil ends_nil (by rw [h2])).1
  · intro h
    refine by_ext ?_
    rw [nl_ser, nl_ser, h]
end Go.Proofs.YtkhnjmbgkakngaaGreatDoor

namespace Go.Proofs.YtkhnjmbgkakngaaGreatDoor
open Go Fp
set_option maxRecDepth 10000
set_option maxHeartbeats 4000000
set_option linter.unusedVariables false
set_option linter.unusedSimpArgs false

abbrev Way := ByteArray × List Int
def wyc (w : Way) : List AV := [.lit (.string w.1), .sl (eIs w.2)]
def eWy (w : Way) : AV := .agg [.lit (.string w.1), .sl (eIs w.2)]
def wys (q : List Way) : List AV := q.flatMap wyc
theorem wys_len (q : List Way) : (wys q).length = q.length * 2 := by
  induction q with
  | nil => rfl
  | cons w q ih => simp only [wys, List.flatMap_cons, List.length_append] at ih ⊢; simp [wyc, ih]; omega
theorem wys_app (q r : List Way) : wys (q ++ r) = wys q ++ wys r := by simp [wys]
abbrev pq (b : Nat) : AV := .lit (.pointer (some ⟨b, 0, none⟩))

structure QSt where
  b : Nat
  cap : Nat
  pre : List AV
  zs : List AV
def qH (bq : Nat) (q : List Way) (s : QSt) : List (Nat × HO) := [(bq, HO.cells [.lit (.slice (some ⟨s.b, s.pre.length, none⟩) q.length s.cap)]), (s.b, HO.cells (s.pre ++ (wys q ++ s.zs)))]
def QOk (q : List Way) (s : QSt) : Prop := q.length ≤ s.cap ∧ (s.cap - q.length) * 2 ≤ s.zs.length

theorem put_nil (bq : Nat) (w : Way) : CallsG Tryz.prog (fnv n_classes_queue_fugue_classes_way_put) [(bq, HO.cells [.nil])] [pq bq, eWy w] [] fun r o h => o = 0 ∧ ∃ s, QOk [w] s ∧ h = qH bq [w] s := by
  refine CallsG.less0 (post := fun r o h => ∃ s, QOk [w] s ∧ h = qH bq [w] s) ?_ (fun r o h hp => ⟨h, [], by simp, by obtain ⟨s, h1, h2⟩ := hp; exact ⟨rfl, s, h1, h2⟩⟩)
  refine callsG_of_wsem (first := []) (cap := []) ttok mixed Tryz.func87 rfl (by rfl) rfl (Nat.le_of_ble_eq_true rfl) (by kernel_rfl) ?_
  refine Wsem.seq ttok mixed ?_
  refine Wsem.regionA ttok mixed 7 ?_
  refine ⟨0, _, _, rfl, rfl, ?_⟩
  refine ⟨by simp, by simp, uni1 rfl, rfl, rfl, ?_⟩
  intro b' cap' zs h1 h2
  refine ⟨rfl, 0, _, rfl, Nat.le_of_ble_eq_true rfl, ?_⟩
  refine ⟨by kernel_rfl, ?_⟩
  refine ⟨⟨b', cap', [], zs⟩, ⟨h1, ?_⟩, rfl⟩
  rw [h2]; simp

theorem setAt_app (A B c : List AV) : setAt (A ++ B) A.length c = A ++ (c ++ B.drop c.length) := by
  unfold setAt
  rw [List.take_left, ← List.drop_drop, List.drop_left]

theorem put_ok (bq : Nat) (q : List Way) (s : QSt) (hq : QOk q s) (hl : q.length < 4294967000) (w : Way) : CallsG Tryz.prog (fnv n_classes_queue_fugue_classes_way_put) (qH bq q s) [pq bq, eWy w] [] fun r o h => o = 0 ∧ ∃ s', QOk (q ++ [w]) s' ∧ h = qH bq (q ++ [w]) s' := by
  refine CallsG.less0 (post := fun r o h => ∃ s', QOk (q ++ [w]) s' ∧ h = qH bq (q ++ [w]) s') ?_ (fun r o h hp => ⟨h, [], by simp, by obtain ⟨s, h1, h2⟩ := hp; exact ⟨rfl, s, h1, h2⟩⟩)
  refine callsG_of_wsem (first := []) (cap := []) ttok mixed Tryz.func87 rfl (by rfl) rfl (Nat.le_of_ble_eq_true rfl) (by kernel_rfl) ?_
  refine Wsem.seq ttok mixed ?_
  refine Wsem.regionA ttok mixed 7 ?_
  refine ⟨0, _, _, rfl, rfl, ?_⟩
  have hz := hq.2
  have hlen : (s.pre ++ (wys q ++ s.zs)).length = s.pre.length + (q.length * 2 + s.zs.length) := by simp [wys_len]
  refine ⟨by simp, ?_, uni1 rfl, 1, _, rfl, hq.1, ?_, fun hg => ?_, fun hg => ?_⟩
  · show q.length + 1 ≤ 4294967296
    omega
  · rw [hlen]
    have := hq.1
    omega
  · intro b' cap' zs h1 h2
    refine ⟨rfl, 0, _, rfl, Nat.le_of_ble_eq_true rfl, ?_⟩
    refine ⟨by kernel_rfl, ?_⟩
    refine ⟨⟨b', cap', [], zs⟩, ⟨by simpa using h1, ?_⟩, ?_⟩
    · simp at h2 ⊢; omega
    · have e1 : ((s.pre ++ (wys q ++ s.zs)).drop s.pre.length).take (q.length * 2) = wys q := by
        rw [List.drop_left, ← wys_len, List.take_left]
      show [_, (b', HO.cells (((s.pre ++ (wys q ++ s.zs)).drop s.pre.length).take (q.length * 2) ++ _))] = _
      rw [e1]
      simp only [qH, wys_app, List.nil_append, List.append_assoc]
      rw [show (q ++ [w]).length = q.length + 1 by simp]
      rfl
  · refine ⟨rfl, 0, _, rfl, Nat.le_of_ble_eq_true rfl, ?_⟩
    refine ⟨by kernel_rfl, ?_⟩
    refine ⟨⟨s.b, s.cap, s.pre, s.zs.drop 2⟩, ⟨by simpa using hg, ?_⟩, ?_⟩
    · simp at hg ⊢; omega
    · have e1 : setAt (s.pre ++ (wys q ++ s.zs)) (s.pre.length + q.length * 2) (wyc w) = s.pre ++ (wys (q ++ [w]) ++ s.zs.drop 2) := by
        have := setAt_app (s.pre ++ wys q) s.zs (wyc w)
        rw [List.length_append, wys_len, List.append_assoc] at this
        rw [this, wys_app, List.append_assoc, List.append_assoc]
        rfl
      show [_, (s.b, HO.cells (setAt (s.pre ++ (wys q ++ s.zs)) (s.pre.length + q.length * 2) (wyc w)))] = _
      rw [e1]
      unfold qH
      rw [show (q ++ [w]).length = q.length + 1 by simp]
      rfl

theorem next_nil (bq : Nat) (s : QSt) : CallsG Tryz.prog (fnv n_classes_queue_fugue_classes_way_next) (qH bq [] s) [pq bq] [] fun r o h => r = .tup [.agg [.lit (.string .empty), .sl []], .sb false] ∧ o = 0 ∧ h = qH bq [] s := by
  refine CallsG.less0 (post := fun r o h => r = .tup [.agg [.lit (.string .empty), .sl []], .sb false] ∧ h = qH bq [] s) ?_ (fun r o h hp => ⟨h, [], by simp, hp.1, rfl, hp.2⟩)
  refine callsG_of_wsem (first := []) (cap := []) ttok mixed Tryz.func88 rfl (by rfl) rfl (Nat.le_of_ble_eq_true rfl) (by kernel_rfl) ?_
  refine Wsem.seq ttok mixed ?_
  refine Wsem.seq ttok mixed ?_
  refine ⟨0, _, _, rfl, rfl, ?_⟩
  refine ⟨fun hbs => ?_, fun hbs => ?_⟩ <;> first | (exfalso; revert hbs; (simp); done) | skip
  exact ⟨rfl, rfl⟩
theorem next_cons (bq : Nat) (w : Way) (q : List Way) (s : QSt) (hq : QOk (w :: q) s) : CallsG Tryz.prog (fnv n_classes_queue_fugue_classes_way_next) (qH bq (w :: q) s) [pq bq] [] fun r o h => r = .tup [eWy w, .sb true] ∧ o = 0 ∧ ∃ s', QOk q s' ∧ h = qH bq q s' := by
  refine CallsG.less0 (post := fun r o h => r = .tup [eWy w, .sb true] ∧ ∃ s', QOk q s' ∧ h = qH bq q s') ?_ (fun r o h hp => ⟨h, [], by simp, by obtain ⟨h0, s, h1, h2⟩ := hp; exact ⟨h0, rfl, s, h1, h2⟩⟩)
  refine callsG_of_wsem (first := []) (cap := []) ttok mixed Tryz.func88 rfl (by rfl) rfl (Nat.le_of_ble_eq_true rfl) (by kernel_rfl) ?_
  refine Wsem.seq ttok mixed ?_
  refine Wsem.seq ttok mixed ?_
  refine ⟨0, _, _, rfl, rfl, ?_⟩
  refine ⟨fun hbs => ?_, fun hbs => ?_⟩ <;> first | (exfalso; revert hbs; (intro h; have h := of_decide_eq_true h; simp at h; omega); done) | skip
  refine Wsem.of ttok mixed ?_
  refine ⟨0, _, _, rfl, rfl, ?_⟩
  refine ⟨by decide, by simp, ?_⟩
  have hz := hq.2
  have hlen : (s.pre ++ (wys (w :: q) ++ s.zs)).length = s.pre.length + ((q.length + 1) * 2 + s.zs.length) := by simp [wys_len]
  refine ⟨1, _, rfl, ?_, ?_⟩
  · rw [hlen]; simp; omega
  have e1 : ((s.pre ++ (wys (w :: q) ++ s.zs)).drop (s.pre.length + (0 : Int).toNat * 2)).take 2 = wyc w := by
    rw [show s.pre.length + (0 : Int).toNat * 2 = s.pre.length by simp, List.drop_left]
    rfl
  rw [e1]
  refine ⟨0, _, _, rfl, rfl, ?_⟩
  have hc := hq.1
  refine ⟨by decide, by simp; omega, by simp at hc ⊢; omega, ?_⟩
  refine ⟨rfl, 0, _, rfl, Nat.le_of_ble_eq_true rfl, ?_⟩
  refine ⟨by kernel_rfl, ?_⟩
  refine ⟨rfl, ?_⟩
  simp only [List.length_cons] at hc hz
  by_cases h1 : s.cap = 1
  · obtain rfl : q = [] := List.eq_nil_of_length_eq_zero (by omega)
    refine ⟨⟨s.b, 0, s.pre, wyc w ++ s.zs⟩, ⟨by simp, by simp⟩, ?_⟩
    have h2 : (if s.cap = (1 : Int).toNat then some ({ block := s.b, off := s.pre.length } : Addr) else (some ({ block := s.b, off := s.pre.length } : Addr)).map (·.add ((1 : Int).toNat * 2))) = some { block := s.b, off := s.pre.length } := if_pos h1
    show [(bq, HO.cells [.lit (.slice (if s.cap = (1 : Int).toNat then some ({ block := s.b, off := s.pre.length } : Addr) else (some ({ block := s.b, off := s.pre.length } : Addr)).map (·.add ((1 : Int).toNat * 2))) _ _)]), _] = _
    rw [h2, h1]
    simp [qH, wys]
  · refine ⟨⟨s.b, s.cap - 1, s.pre ++ wyc w, s.zs⟩, ⟨by show q.length ≤ s.cap - 1; omega, by show (s.cap - 1 - q.length) * 2 ≤ s.zs.length; omega⟩, ?_⟩
    have h2 : (if s.cap = (1 : Int).toNat then some ({ block := s.b, off := s.pre.length } : Addr) else (some ({ block := s.b, off := s.pre.length } : Addr)).map (·.add ((1 : Int).toNat * 2))) = some { block := s.b, off := s.pre.length + 2 } := if_neg h1
    show [(bq, HO.cells [.lit (.slice (if s.cap = (1 : Int).toNat then some ({ block := s.b, off := s.pre.length } : Addr) else (some ({ block := s.b, off := s.pre.length } : Addr)).map (·.add ((1 : Int).toNat * 2))) _ _)]), _] = _
    rw [h2]
    simp [qH, wys, wyc]
end Go.Proofs.YtkhnjmbgkakngaaGreatDoor

namespace Go.Proofs.YtkhnjmbgkakngaaGreatDoor
open Go Fp
set_option maxRecDepth 10000
set_option maxHeartbeats 4000000
set_option linter.unusedVariables false
set_option linter.unusedSimpArgs false

theorem svc {n m : Int} (h : n = m) : SV.v (AV.lit (Value.int .i64 n)) = SV.v (AV.lit (Value.int .i64 m)) := by rw [h]
abbrev sv (n : Int) : SV := .v (.lit (.int .i64 n))
theorem cloneI_ok (l : List Int) (hl : l.length < 20000) : CallsG Tryz.prog (fnv n_slices_Clone_intint) [] [.sl (eIs l)] [] fun r o h => r = .sl (eIs l) ∧ o = 2 ∧ h = [] := by
  cases l with
  | nil =>
    refine callsF_of_wcx ttok mixed Tryz.func89 rfl (by rfl) (Nat.le_of_ble_eq_true rfl) (by kernel_rfl) ?_
    refine ⟨?_, ?_⟩
    · exact .inl ⟨rfl, rfl, rfl⟩
    exact ⟨by decide, fun a ha => by simp at ha, uniI [], .inr ⟨rfl, rfl, rfl⟩⟩
  | cons q l =>
    refine callsF_of_wcx ttok mixed Tryz.func89 rfl (by rfl) (Nat.le_of_ble_eq_true rfl) (by kernel_rfl) ?_
    exact ⟨by simp [eIs] at hl ⊢; omega, fun a ha => by simp at ha, uniI (q :: l), .inr ⟨rfl, rfl, rfl⟩⟩

structure Cl where
  nm : ByteArray
  at_ : Int
  var : ByteArray
  sup : List ByteArray
  mth : List (ByteArray × Int)
def eSg (m : ByteArray × Int) : AV := .agg [.lit (.string m.1), .lit (.int .i64 m.2), .sl [], .sl [], .sl [], .lit (.int .i64 0), .lit (.int .i64 0), .lit (.string .empty), .sl []]
def eSgs (l : List (ByteArray × Int)) : List AV := l.map eSg
def eCl (c : Cl) : AV := .agg [.lit (.string c.nm), .lit (.int .i64 c.at_), .lit (.string c.var), .sl [], .sl (eSs c.sup), .sl (eSgs c.mth)]
def eCls (l : List Cl) : List AV := l.map eCl
structure PR where
  cls : ByteArray
  ty : Tp
def ePr (p : PR) : AV := .agg [.lit (.string p.cls), .lit (.int .i64 p.ty.form), .lit (.int .i64 p.ty.num), .lit (.string p.ty.nam), .sl p.ty.eArgs]
def ePrs (l : List PR) : List AV := l.map ePr
structure In where
  cls : ByteArray
  at_ : Int
  con : ByteArray
  vars : List ByteArray
  prs : List PR
def eIn (x : In) : AV := .agg [.lit (.string x.cls), .lit (.int .i64 x.at_), .lit (.string x.con), .sl (eSs x.vars), .sl (ePrs x.prs), .sl []]
def eIns (l : List In) : List AV := l.map eIn

def clsL (m : List Cl) : List (AV × AV) := m.map fun c => (.lit (.string c.nm), eCl c)
def lookC : List Cl → ByteArray → Option Cl
  | [], _ => none
  | c :: r, s => if c.nm = s then some c else lookC r s
theorem keys_cls (m : List Cl) : ∀ p ∈ clsL m, keyLike (.lit (.string .empty)) p.1 := fun p hp => by
  obtain ⟨y, _, rfl⟩ := List.mem_map.1 hp; trivial
theorem found_cls (m : List Cl) (s : ByteArray) : (lookC m s = none ∧ Fp.Found (clsL m) (.string s) none) ∨ ∃ j c, lookC m s = some c ∧ Fp.Found (clsL m) (.string s) (some (j, eCl c)) := by
  induction m with
  | nil => exact .inl ⟨rfl, .no fun p hp => by simp [clsL] at hp⟩
  | cons c r ih =>
    by_cases hc : c.nm = s
    · exact .inr ⟨0, c, by simp [lookC, hc], .yes 0 _ (by simp [clsL, hc]) (fun i hi => by omega)⟩
    · have hne : (AV.lit (.string c.nm)) ≠ .lit (.string s) := fun e => by injection e with e; injection e with e; exact hc e
      rcases ih with ⟨h1, h2⟩ | ⟨j, x, h1, h2⟩
      · refine .inl ⟨by simp [lookC, hc, h1], ?_⟩
        cases h2 with
        | no h =>
          refine .no fun p hp => ?_
          rcases List.mem_cons.1 hp with rfl | hp
          · exact hne
          · exact h p hp
      · refine .inr ⟨j + 1, x, by simp [lookC, hc, h1], ?_⟩
        cases h2 with
        | yes j a h hf =>
          refine .yes (j + 1) _ (by simpa [clsL] using h) (fun i hi p hp => ?_)
          match i with
          | 0 => simp [clsL] at hp; subst hp; exact hne
          | i + 1 => exact hf i (by omega) p (by simpa [clsL] using hp)
def sups (m : List Cl) (s : ByteArray) : List ByteArray := match lookC m s with
  | some c => c.sup
  | none => []
def exC (m : List Cl) (s : ByteArray) : Bool := (lookC m s).isSome

/-- The environment, with its map of methods, whatever that holds. -/
def eEnv (m : List Cl) (mm : List (AV × AV)) (is : List In) : AV := .ptr [.mpv (clsL m), .mpv mm, .sl (eIns is)]

/-! ### what was seen -/
def seenL (sn : List ByteArray) : List (AV × AV) := sn.map fun s => (.lit (.string s), .lit (.bool true))
theorem keys_seen (sn : List ByteArray) : ∀ p ∈ seenL sn, keyLike (.lit (.string .empty)) p.1 := fun p hp => by
  obtain ⟨y, _, rfl⟩ := List.mem_map.1 hp; trivial
theorem seen_no {sn : List ByteArray} {s : ByteArray} (h : s ∉ sn) : Fp.Found (seenL sn) (.string s) none := .no fun p hp => by
  obtain ⟨y, hy, rfl⟩ := List.mem_map.1 hp
  intro e
  have e : AV.lit (.string y) = .lit (.string s) := e
  injection e with e; injection e with e
  exact h (e ▸ hy)
theorem seen_yes : ∀ {sn : List ByteArray} {s : ByteArray}, s ∈ sn → ∃ j, Fp.Found (seenL sn) (.string s) (some (j, .lit (.bool true)))
  | x :: r, s, h => by
    by_cases hx : x = s
    · exact ⟨0, .yes 0 _ (by simp [seenL, hx]) (fun i hi => by omega)⟩
    · obtain ⟨j, hj⟩ := seen_yes (sn := r) ((List.mem_cons.1 h).resolve_left (fun e => hx e.symm))
      cases hj with
      | yes j a h hf =>
        refine ⟨j + 1, .yes (j + 1) _ (by simpa [seenL] using h) (fun i hi p hp => ?_)⟩
        match i with
        | 0 =>
          simp [seenL] at hp; subst hp
          intro e
          have e : AV.lit (.string x) = .lit (.string s) := e
          injection e with e; injection e with e
          exact hx e
        | i + 1 => exact hf i (by omega) p (by simpa [seenL] using hp)
theorem seen_snoc (sn : List ByteArray) (s : ByteArray) : seenL (sn ++ [s]) = mapPut (seenL sn) (.string s) (.lit (.bool true)) none := by simp [seenL, mapPut]

/-! ### the climb -/
section
variable {σ : Type} (m : List Cl) (step : σ → Way → Bool × σ)
/-- One way's classes above, in their row: what waits, what was seen, the see-er's state; false: it is over. -/
def visit (path : List Int) : Nat → List ByteArray → List Way → List ByteArray → σ → (List Way × List ByteArray × σ) × Bool
  | _, [], q, sn, s => ((q, sn, s), true)
  | i, x :: xs, q, sn, s => if (!exC m x || memb x sn) = true then visit path (i + 1) xs q sn s else
      match (step s (x, path ++ [(i : Int)])).1 with
      | false => ((q, sn ++ [x], (step s (x, path ++ [(i : Int)])).2), false)
      | true => visit path (i + 1) xs (q ++ [(x, path ++ [(i : Int)])]) (sn ++ [x]) (step s (x, path ++ [(i : Int)])).2
def bfs : Nat → List Way → List ByteArray → σ → σ
  | 0, _, _, s => s
  | _ + 1, [], _, s => s
  | n + 1, w :: q, sn, s => match visit m step w.2 0 (sups m w.1) q sn s with
    | ((_, _, s'), false) => s'
    | ((q', sn', s'), true) => bfs n q' sn' s'
end
/-- How many classes were not seen. -/
def unseen (m : List Cl) (sn : List ByteArray) : Nat := (m.filter fun c => !memb c.nm sn).length
theorem lookC_mem {m : List Cl} {s : ByteArray} {c : Cl} (h : lookC m s = some c) : c ∈ m ∧ c.nm = s := by
  induction m with
  | nil => simp [lookC] at h
  | cons x r ih =>
    rw [lookC] at h
    split at h
    · rename_i hx; injection h with h; subst h; exact ⟨List.mem_cons_self, hx⟩
    · obtain ⟨h1, h2⟩ := ih h; exact ⟨List.mem_cons_of_mem _ h1, h2⟩
theorem unseen_lt {m : List Cl} {sn : List ByteArray} {s : ByteArray} (h : exC m s = true) (hs : s ∉ sn) : unseen m (sn ++ [s]) < unseen m sn := by
  unfold exC at h
  obtain ⟨c, hc⟩ := Option.isSome_iff_exists.1 h
  obtain ⟨h1, h2⟩ := lookC_mem hc
  unfold unseen
  clear hc h
  have me : ∀ x : Cl, (!memb x.nm (sn ++ [s])) = (!memb x.nm sn && decide (x.nm ≠ s)) := fun x => by
    rw [Bool.eq_iff_iff]
    simp [memb]
  induction m with
  | nil => simp at h1
  | cons x r ih =>
    have le : ∀ (r : List Cl), (r.filter fun c => !memb c.nm (sn ++ [s])).length ≤ (r.filter fun c => !memb c.nm sn).length := fun r => by
      refine (List.Sublist.length_le ?_)
      rw [show (r.filter fun c => !memb c.nm (sn ++ [s])) = (r.filter fun c => !memb c.nm sn).filter (fun c => decide (c.nm ≠ s)) by
        rw [List.filter_filter]; congr 1; funext c; rw [me c, Bool.and_comm]]
      exact List.filter_sublist
    by_cases hx : x.nm = s
    · have e1 : (!memb x.nm (sn ++ [s])) = false := by rw [me]; simp [hx]
      have e2 : (!memb x.nm sn) = true := by rw [hx, memb_no hs]; rfl
      simp only [List.filter_cons, e1, e2, if_true]
      have := le r
      simp; omega
    · have hr : c ∈ r := (List.mem_cons.1 h1).resolve_left (fun e => hx (e ▸ h2))
      have := ih hr
      have e1 : (!memb x.nm (sn ++ [s])) = (!memb x.nm sn) := by rw [me]; simp [hx]
      simp only [List.filter_cons, e1]
      split <;> simp <;> omega
end Go.Proofs.YtkhnjmbgkakngaaGreatDoor
