/- A part of the proof of a given statement: contracts of functions of the program, under no condition but those that each states. -/
import Derived.Test.YtocglbflmkadeaaDoorL23
set_option linter.unusedSimpArgs false
set_option linter.unusedVariables false
namespace Go.Proofs.YtocglbflmkadeaaDoor
open Go Fp
set_option maxRecDepth 100000
set_option maxHeartbeats 8000000

/-- Types in which what is given within is told by how many stand between. -/
inductive Db where
  | no
  | mt (n : Int)
  | bv (i : Nat)
  | fr (s : ByteArray)
  | con (s : ByteArray)
  | app (a b : Db)
  | all (a : Db)

def ixN {α : Type} [DecidableEq α] : List α → α → Nat
  | [], _ => 0
  | x :: l, s => if x = s then 0 else ixN l s + 1

/-- The innermost name stands first. -/
def db : Tp → List ByteArray → Db
  | .no, _ => .no
  | .mt n, _ => .mt n
  | .con s, _ => .con s
  | .var s, e => if memb s e then .bv (ixN e s) else .fr s
  | .app a b, e => .app (db a e) (db b e)
  | .all s a, e => .all (db a (s :: e))

def sb (σ : ByteArray → Db) : Db → Db
  | .fr s => σ s
  | .app a b => .app (sb σ a) (sb σ b)
  | .all a => .all (sb σ a)
  | d => d

theorem sb_sb (σ τ : ByteArray → Db) (d : Db) : sb τ (sb σ d) = sb (fun y => sb τ (σ y)) d := by
  induction d with
  | app a b iha ihb => simp only [sb, iha, ihb]
  | all a ih => simp only [sb, ih]
  | _ => rfl

theorem ixN_lt {α : Type} [DecidableEq α] {l : List α} {s : α} (h : s ∈ l) : ixN l s < l.length := by
  induction l with
  | nil => cases h
  | cons x l ih =>
    simp only [ixN, List.length_cons]
    split
    · omega
    · rename_i hx
      rcases List.mem_cons.1 h with e | e
      · exact absurd e.symm hx
      · have := ih e; omega
theorem ixN_eq {α : Type} [DecidableEq α] {l : List α} {s : α} (h : s ∈ l) : ixI l s = (ixN l s : Nat) := by
  induction l with
  | nil => cases h
  | cons x l ih =>
    simp only [ixN]
    split
    · rename_i hx; subst hx; simp [ixI]
    · rename_i hx
      rcases List.mem_cons.1 h with e | e
      · exact absurd e.symm hx
      · rw [ixI_cons hx e, ih e]; rfl

theorem pl_eq {x : List ByteArray} {s : ByteArray} : (s ∈ x → pl x s = (x.length : Int) - 1 - (ixN x.reverse s : Nat)) ∧ (s ∉ x → pl x s = -1) := by
  constructor
  · intro h
    rw [pl, memb_yes h, if_pos rfl, ixN_eq (List.mem_reverse.2 h)]
  · intro h
    rw [pl, memb_no h]; rfl

theorem memb_rev {x : List ByteArray} {s : ByteArray} : memb s x.reverse = memb s x := by
  by_cases h : s ∈ x
  · rw [memb_yes h, memb_yes (List.mem_reverse.2 h)]
  · rw [memb_no h, memb_no (fun e => h (List.mem_reverse.1 e))]

theorem smb_db : ∀ (a b : Tp) (x y : List ByteArray), x.length = y.length → (smb a b x y = true ↔ db a x.reverse = db b y.reverse) := by
  intro a
  induction a with
  | no => intro b x y h; cases b <;> simp [smb, db]; split <;> simp
  | mt n => intro b x y h; cases b <;> simp [smb, db]; split <;> simp
  | con s => intro b x y h; cases b <;> simp [smb, db]; split <;> simp
  | var s =>
    intro b x y h
    cases b with
    | var r =>
      obtain ⟨p1, p2⟩ := pl_eq (x := x) (s := s)
      obtain ⟨q1, q2⟩ := pl_eq (x := y) (s := r)
      simp only [smb, db, memb_rev]
      by_cases hs : s ∈ x
      · have p1 := p1 hs
        have l1 := ixN_lt (List.mem_reverse.2 hs)
        rw [List.length_reverse] at l1
        rw [memb_yes hs, if_pos rfl]
        by_cases hr : r ∈ y
        · have q1 := q1 hr
          rw [memb_yes hr, if_pos rfl]
          simp only [Bool.and_eq_true, Bool.or_eq_true, decide_eq_true_eq, Db.bv.injEq]
          omega
        · have q2 := q2 hr
          rw [memb_no hr]
          simp only [Bool.and_eq_true, Bool.or_eq_true, decide_eq_true_eq, Bool.false_eq_true, if_false]
          constructor
          · rintro ⟨e, _⟩; omega
          · intro e; cases e
      · have p2 := p2 hs
        rw [memb_no hs]
        by_cases hr : r ∈ y
        · have q1 := q1 hr
          have l1 := ixN_lt (List.mem_reverse.2 hr)
          rw [List.length_reverse] at l1
          rw [memb_yes hr]
          simp only [Bool.and_eq_true, Bool.or_eq_true, decide_eq_true_eq, Bool.false_eq_true, if_false, if_true]
          constructor
          · rintro ⟨e, _⟩; omega
          · intro e; cases e
        · have q2 := q2 hr
          rw [memb_no hr]
          simp only [Bool.and_eq_true, Bool.or_eq_true, decide_eq_true_eq, Bool.false_eq_true, if_false, Db.fr.injEq]
          constructor
          · rintro ⟨e, h1 | h1⟩
            · omega
            · exact h1
          · intro e; exact ⟨by omega, .inr e⟩
    | _ => simp only [smb, db]; split <;> simp
  | app a1 a2 ih1 ih2 =>
    intro b x y h
    cases b with
    | app b1 b2 => simp only [smb, db, Bool.and_eq_true, ih1 b1 x y h, ih2 b2 x y h, Db.app.injEq]
    | var s => simp only [smb, db]; split <;> simp
    | _ => simp [smb, db]
  | all s a ih =>
    intro b x y h
    cases b with
    | all r b =>
      have := ih b (x ++ [s]) (y ++ [r]) (by simp [h])
      simp only [List.reverse_append, List.reverse_cons, List.reverse_nil, List.nil_append, List.singleton_append] at this
      simp only [smb, db, this, Db.all.injEq]
    | var s => simp only [smb, db]; split <;> simp
    | _ => simp [smb, db]

theorem smb_same {a b : Tp} (h : db a [] = db b []) : smb a b [] [] = true := (smb_db a b [] [] rfl).2 h

/-- What is put for a name; itself, if nothing is. -/
def lookD (y : ByteArray) (ps : Env') : Tp := (look y ps).getD (.var y)

theorem ixN_app {α : Type} [DecidableEq α] {l e : List α} {s : α} (hl : s ∈ l) : ixN (l ++ e) s = ixN l s := by
  induction l with
  | nil => cases hl
  | cons y l ih =>
    simp only [List.cons_append, ixN]
    split
    · rfl
    · rename_i hy
      rcases List.mem_cons.1 hl with e1 | e1
      · exact absurd e1.symm hy
      · rw [ih e1]

/-- Names that are not free in it do not count. -/
theorem db_skip (t : Tp) : ∀ (l e : List ByteArray), (∀ x ∈ fv t, x ∉ l → x ∉ e) → db t (l ++ e) = db t l := by
  induction t with
  | var s =>
    intro l e h
    have h := h s (by simp [fv])
    simp only [db]
    by_cases hl : s ∈ l
    · rw [memb_yes hl, memb_yes (List.mem_append_left _ hl), if_pos rfl, if_pos rfl]
      rw [ixN_app hl]
    · rw [memb_no hl, memb_no (fun hm => (List.mem_append.1 hm).elim hl (h hl))]
      rfl
  | app a b iha ihb =>
    intro l e h
    simp only [db]
    rw [iha l e (fun x hx => h x (mem_fv_app.2 (.inl hx))), ihb l e (fun x hx => h x (mem_fv_app.2 (.inr hx)))]
  | all s a ih =>
    intro l e h
    simp only [db]
    rw [← List.cons_append, ih (s :: l) e (fun x hx hn => by
      simp only [List.mem_cons, not_or] at hn
      exact h x (mem_fv_all.2 ⟨hx, hn.1⟩) hn.2)]
  | _ => intro l e h; rfl

theorem ixN_ne {α : Type} [DecidableEq α] {l : List α} {w s : α} (h : w ≠ s) : ixN (w :: l) s = ixN l s + 1 := by simp [ixN, h]

/-- A substitution as one among types without names. -/
theorem db_sub (t : Tp) : ∀ (ps : Env') (e e' : List ByteArray) (σ : ByteArray → Db),
    (∀ y ∈ fv t, (y ∈ e ∧ ∃ y', lookD y ps = .var y' ∧ y' ∈ e' ∧ ixN e' y' = ixN e y) ∨ (y ∉ e ∧ (∀ x ∈ fv (lookD y ps), x ∉ e') ∧ σ y = db (lookD y ps) [])) →
    db (sub t ps) e' = sb σ (db t e) := by
  induction t with
  | var s =>
    intro ps e e' σ h
    have h := h s (by simp [fv])
    show db (lookD s ps) e' = _
    rcases h with ⟨h1, y', h2, h3, h4⟩ | ⟨h1, h2, h3⟩
    · rw [h2]
      simp only [db]
      rw [memb_yes h3, memb_yes h1, if_pos rfl, if_pos rfl, h4]; rfl
    · have := db_skip (lookD s ps) [] e' (fun x hx _ => h2 x hx)
      rw [List.nil_append] at this
      simp only [db]
      rw [memb_no h1, this, ← h3]
      rfl
  | app a b iha ihb =>
    intro ps e e' σ h
    simp only [sub, db, sb]
    rw [iha ps e e' σ (fun y hy => h y (mem_fv_app.2 (.inl hy))), ihb ps e e' σ (fun y hy => h y (mem_fv_app.2 (.inr hy)))]
  | all s a ih =>
    intro ps e e' σ h
    obtain ⟨q, hq⟩ : ∃ q, q = kept s (fv a) ps := ⟨_, rfl⟩
    have hl : ∀ y, y ∈ fv a → y ≠ s → look y q = look y ps := fun y h1 h2 => by rw [hq]; exact look_kept h2 h1
    have hs : look s q = none := by rw [hq]; exact look_kept_s
    have hcau : ∀ y u x, look y q = some u → x ∈ fv u → x ∈ caught q := fun y u x h1 h2 => List.mem_flatMap.2 ⟨_, look_mem h1, h2⟩
    -- the general step
    have key : ∀ (w : ByteArray) (ps' : Env'), lookD s ps' = .var w → (∀ y, y ∈ fv a → y ≠ s → lookD y ps' = lookD y ps) → (∀ y, y ∈ fv a → y ≠ s → w ∉ fv (lookD y ps)) →
        db (sub a ps') (w :: e') = sb σ (db a (s :: e)) := fun w ps' k1 k2 k3 => by
      refine ih ps' (s :: e) (w :: e') σ fun y hy => ?_
      by_cases hys : y = s
      · subst hys
        exact .inl ⟨by simp, w, k1, by simp, by simp [ixN]⟩
      · have hw := k3 y hy hys
        rcases h y (mem_fv_all.2 ⟨hy, hys⟩) with ⟨h1, y', h2, h3, h4⟩ | ⟨h1, h2, h3⟩
        · rw [h2] at hw
          have hne : w ≠ y' := fun e => hw (by simp [fv, e])
          refine .inl ⟨by simp [h1], y', by rw [k2 y hy hys, h2], by simp [h3], ?_⟩
          rw [ixN_ne hne, ixN_ne (Ne.symm hys), h4]
        · refine .inr ⟨by simp [hys, h1], fun x hx => ?_, by rw [k2 y hy hys, h3]⟩
          rw [k2 y hy hys] at hx
          simp only [List.mem_cons, not_or]
          exact ⟨fun e => hw (e ▸ hx), h2 x hx⟩
    simp only [sub, ← hq]
    split
    · obtain ⟨z, hz⟩ : ∃ z, z = lett (ff (caught q ++ fv a)) := ⟨_, rfl⟩
      have hnew : z ∉ caught q ++ fv a := hz ▸ ff_new _
      simp only [List.mem_append, not_or] at hnew
      rw [← hz]
      simp only [db, sb]
      refine congrArg Db.all (key z (q ++ [(s, .var z)]) (by simp [lookD, look_append, hs, look]) (fun y h1 h2 => ?_) (fun y h1 h2 h3 => ?_))
      · unfold lookD
        rw [look_append, ← hl y h1 h2]
        cases look y q with
        | none => simp [look, Ne.symm h2]
        | some u => rfl
      · unfold lookD at h3
        rw [← hl y h1 h2] at h3
        cases hc : look y q with
        | none => rw [hc] at h3; simp [fv] at h3; subst h3; exact hnew.2 h1
        | some u => rw [hc] at h3; exact hnew.1 (hcau y u _ hc h3)
    · rename_i hcap
      have hns : s ∉ caught q := fun h => hcap (memb_yes h)
      simp only [db, sb]
      refine congrArg Db.all (key s q (by simp [lookD, hs]) (fun y h1 h2 => by unfold lookD; rw [hl y h1 h2]) (fun y h1 h2 h3 => ?_))
      unfold lookD at h3
      rw [← hl y h1 h2] at h3
      cases hc : look y q with
      | none => rw [hc] at h3; simp [fv] at h3; exact h2 h3.symm
      | some u => rw [hc] at h3; exact hns (hcau y u _ hc h3)
  | _ => intro ps e e' σ h; rfl

theorem db_sub0 (t : Tp) (ps : Env') : db (sub t ps) [] = sb (fun y => db (lookD y ps) []) (db t []) :=
  db_sub t ps [] [] _ fun y _ => .inr ⟨by simp, fun x _ => by simp, rfl⟩

/-- Only free names count. -/
theorem sb_free (t : Tp) : ∀ (e : List ByteArray) (σ τ : ByteArray → Db), (∀ y ∈ fv t, y ∉ e → σ y = τ y) → sb σ (db t e) = sb τ (db t e) := by
  induction t with
  | var s =>
    intro e σ τ h
    simp only [db]
    by_cases hs : s ∈ e
    · rw [memb_yes hs]; rfl
    · rw [memb_no hs]; exact h s (by simp [fv]) hs
  | app a b iha ihb =>
    intro e σ τ h
    simp only [db, sb]
    rw [iha e σ τ (fun y hy => h y (mem_fv_app.2 (.inl hy))), ihb e σ τ (fun y hy => h y (mem_fv_app.2 (.inr hy)))]
  | all s a ih =>
    intro e σ τ h
    simp only [db, sb]
    rw [ih (s :: e) σ τ (fun y hy hn => by
      simp only [List.mem_cons, not_or] at hn
      exact h y (mem_fv_all.2 ⟨hy, hn.1⟩) hn.2)]
  | _ => intro e σ τ h; rfl
theorem sb_fr (d : Db) : sb .fr d = d := by
  induction d with
  | app a b iha ihb => simp only [sb, iha, ihb]
  | all a ih => simp only [sb, ih]
  | _ => rfl

theorem composes {t x y : Tp} {a b : ByteArray} (hab : a ≠ b) (ha : a ∉ fv y) :
    db (sub (sub t [(a, x)]) [(b, y)]) [] = db (sub (sub t [(b, y)]) [(a, sub x [(b, y)])]) [] := by
  simp only [db_sub0, sb_sb]
  congr 1
  funext v
  by_cases hva : v = a
  · subst hva
    have e1 : lookD v [(v, x)] = x := by simp [lookD, look]
    have e2 : lookD v [(b, y)] = .var v := by simp [lookD, look, Ne.symm hab]
    have e3 : lookD v [(v, sub x [(b, y)])] = sub x [(b, y)] := by simp [lookD, look]
    rw [e1, e2]
    show _ = sb _ (.fr v)
    simp only [sb]
    rw [e3, db_sub0]
  · have e1 : lookD v [(a, x)] = .var v := by simp [lookD, look, Ne.symm hva]
    rw [e1]
    show sb _ (.fr v) = _
    simp only [sb]
    by_cases hvb : v = b
    · subst hvb
      have e2 : lookD v [(v, y)] = y := by simp [lookD, look]
      rw [e2, sb_free y [] _ .fr (fun w hw _ => ?_), sb_fr]
      have : lookD w [(a, sub x [(v, y)])] = .var w := by
        have : a ≠ w := fun e => ha (e ▸ hw)
        simp [lookD, look, this]
      rw [this]; rfl
    · have e2 : lookD v [(b, y)] = .var v := by simp [lookD, look, Ne.symm hvb]
      have e3 : lookD v [(a, sub x [(b, y)])] = .var v := by simp [lookD, look, Ne.symm hva]
      rw [e2]
      show _ = sb _ (.fr v)
      simp only [sb]
      rw [e3]
end Go.Proofs.YtocglbflmkadeaaDoor
