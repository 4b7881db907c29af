/- A part of the proof of a given statement: contracts of functions of the program, under no condition but those that each states. -/
import Derived.Test.YtgonkhaebmfgiaaGreatDoorB
import Derived.Test.YtgonkhaebmfgiaaGreatDoorFpE
set_option linter.unusedSimpArgs false
set_option linter.unusedVariables false
namespace Go.Proofs.YtgonkhaebmfgiaaGreatDoor
open Go Fp
set_option maxRecDepth 100000
set_option maxHeartbeats 8000000
theorem small4_low : ∀ s ∈ small4, Low 24 s := by
 have h : ∀ n : Nat, n < 24 → (lett n = ⟨#[UInt8.ofNat (97 + n)]⟩) := fun n hn => by rw [lett, if_pos (by omega), Nat.mod_eq_of_lt (by omega)]
 intro s hs
 unfold small4 at hs
 simp at hs
 rcases hs with rfl | rfl | rfl | rfl
 ·exact ⟨0, by decide, h 0 (by decide)⟩
 ·exact ⟨1, by decide, h 1 (by decide)⟩
 ·exact ⟨2, by decide, h 2 (by decide)⟩
 ·exact ⟨23, by decide, h 23 (by decide)⟩
theorem mem_fv_app {a b : Tp} {x : ByteArray} : x ∈ fv (.app a b) ↔ x ∈ fv a ∨ x ∈ fv b := by
 simp only [fv, mem_insAll, no]
 simp
theorem mem_fv_all {s : ByteArray} {a : Tp} {x : ByteArray} : x ∈ fv (.all s a) ↔ x ∈ fv a ∧ x ≠ s := by
 simp only [fv, mem_insAll]
 simp
def Fo (ps : Env') (y x : ByteArray) : Prop := match look y ps with
 | none => x = y
 | some u => x ∈ fv u
theorem look_none {y : ByteArray} {ps : Env'} (h : y ∉ ps.map (·.1)) : look y ps = none := by
 induction ps with
 | nil => rfl
 | cons p r ih =>
  obtain ⟨s, t⟩ := p
  simp only [List.map_cons, List.mem_cons, not_or] at h
  simp only [look]
  rw [if_neg (fun e => h.1 e.symm)]
  exact ih h.2
theorem look_append {y : ByteArray} {ps qs : Env'} : look y (ps ++ qs) = match look y ps with | none => look y qs | some u => some u := by
 induction ps with
 | nil => rfl
 | cons p r ih =>
  obtain ⟨s, t⟩ := p
  simp only [List.cons_append, look]
  split
  ·rfl
  ·exact ih
theorem look_kept {s y : ByteArray} {own : List ByteArray} {ps : Env'} (h1 : y ≠ s) (h2 : y ∈ own) : look y (kept s own ps) = look y ps := by
 induction ps with
 | nil => rfl
 | cons p r ih =>
  obtain ⟨n, t⟩ := p
  unfold kept at ih ⊢
  by_cases hn : n = y
  ·subst hn
   rw [List.filter_cons, if_pos (by rw [memb_yes h2, decide_eq_true (p := n ≠ s) h1]; rfl)]
   simp [look]
  ·rw [List.filter_cons]
   split
   ·simp only [look, if_neg hn]; exact ih
   ·simp only [look, if_neg hn]; exact ih
theorem look_kept_s {s : ByteArray} {own : List ByteArray} {ps : Env'} : look s (kept s own ps) = none := by
 apply look_none
 intro hm
 obtain ⟨p, hp, e⟩ := List.mem_map.1 hm
 have := (List.mem_filter.1 hp).2
 rw [decide_eq_false (p := p.1 ≠ s) (fun h => h e)] at this
 cases this
def rest (own : List ByteArray) (ps : Env') : List ByteArray := own.filter fun x => !memb x (ps.map (·.1))
inductive Db where
 | no
 | mt (n : Int)
 | bv (i : Nat)
 | fr (s : ByteArray)
 | con (s : ByteArray)
 | app (a b : Db)
 | all (a : Db)
def ixN {α : Type} [DecidableEq α] : List α → α → Nat
 | [], _ => 0
 | x :: l, s => if x = s then 0 else ixN l s + 1
def db : Tp → List ByteArray → Db
 | .no, _ => .no
 | .mt n, _ => .mt n
 | .con s, _ => .con s
 | .var s, e => if memb s e then .bv (ixN e s) else .fr s
 | .app a b, e => .app (db a e) (db b e)
 | .all s a, e => .all (db a (s :: e))
def sb (σ : ByteArray → Db) : Db → Db
 | .fr s => σ s
 | .app a b => .app (sb σ a) (sb σ b)
 | .all a => .all (sb σ a)
 | d => d
def lookD (y : ByteArray) (ps : Env') : Tp := (look y ps).getD (.var y)
theorem ixN_app {α : Type} [DecidableEq α] {l e : List α} {s : α} (hl : s ∈ l) : ixN (l ++ e) s = ixN l s := by
 induction l with
 | nil => cases hl
 | cons y l ih =>
  simp only [List.cons_append, ixN]
  split
  ·rfl
  ·rename_i hy
   rcases List.mem_cons.1 hl with e1 | e1
   ·exact absurd e1.symm hy
   ·rw [ih e1]
theorem db_skip (t : Tp) : ∀ (l e : List ByteArray), (∀ x ∈ fv t, x ∉ l → x ∉ e) → db t (l ++ e) = db t l := by
 induction t with
 | var s =>
  intro l e h
  have h := h s (by simp [fv])
  simp only [db]
  by_cases hl : s ∈ l
  ·rw [memb_yes hl, memb_yes (List.mem_append_left _ hl), if_pos rfl, if_pos rfl]
   rw [ixN_app hl]
  ·rw [memb_no hl, memb_no (fun hm => (List.mem_append.1 hm).elim hl (h hl))]
   rfl
 | app a b iha ihb =>
  intro l e h
  simp only [db]
  rw [iha l e (fun x hx => h x (mem_fv_app.2 (.inl hx))), ihb l e (fun x hx => h x (mem_fv_app.2 (.inr hx)))]
 | all s a ih =>
  intro l e h
  simp only [db]
  rw [← List.cons_append, ih (s :: l) e (fun x hx hn => by
   simp only [List.mem_cons, not_or] at hn
   exact h x (mem_fv_all.2 ⟨hx, hn.1⟩) hn.2)]
 | _ => intro l e h; rfl
theorem ixN_ne {α : Type} [DecidableEq α] {l : List α} {w s : α} (h : w ≠ s) : ixN (w :: l) s = ixN l s + 1 := by simp [ixN, h]
theorem db_sub (t : Tp) : ∀ (ps : Env') (e e' : List ByteArray) (σ : ByteArray → Db),
  (∀ y ∈ fv t, (y ∈ e ∧ ∃ y', lookD y ps = .var y' ∧ y' ∈ e' ∧ ixN e' y' = ixN e y) ∨ (y ∉ e ∧ (∀ x ∈ fv (lookD y ps), x ∉ e') ∧ σ y = db (lookD y ps) [])) →
  db (sub t ps) e' = sb σ (db t e) := by
 induction t with
 | var s =>
  intro ps e e' σ h
  have h := h s (by simp [fv])
  show db (lookD s ps) e' = _
  rcases h with ⟨h1, y', h2, h3, h4⟩ | ⟨h1, h2, h3⟩
  ·rw [h2]
   simp only [db]
   rw [memb_yes h3, memb_yes h1, if_pos rfl, if_pos rfl, h4]; rfl
  ·have := db_skip (lookD s ps) [] e' (fun x hx _ => h2 x hx)
   rw [List.nil_append] at this
   simp only [db]
   rw [memb_no h1, this, ← h3]
   rfl
 | app a b iha ihb =>
  intro ps e e' σ h
  simp only [sub, db, sb]
  rw [iha ps e e' σ (fun y hy => h y (mem_fv_app.2 (.inl hy))), ihb ps e e' σ (fun y hy => h y (mem_fv_app.2 (.inr hy)))]
 | all s a ih =>
  intro ps e e' σ h
  obtain ⟨q, hq⟩ : ∃ q, q = kept s (fv a) ps := ⟨_, rfl⟩
  have hl : ∀ y, y ∈ fv a → y ≠ s → look y q = look y ps := fun y h1 h2 => by rw [hq]; exact look_kept h2 h1
  have hs : look s q = none := by rw [hq]; exact look_kept_s
  have hcau : ∀ y u x, look y q = some u → x ∈ fv u → x ∈ caught q := fun y u x h1 h2 => List.mem_flatMap.2 ⟨_, look_mem h1, h2⟩
  have key : ∀ (w : ByteArray) (ps' : Env'), lookD s ps' = .var w → (∀ y, y ∈ fv a → y ≠ s → lookD y ps' = lookD y ps) → (∀ y, y ∈ fv a → y ≠ s → w ∉ fv (lookD y ps)) →
    db (sub a ps') (w :: e') = sb σ (db a (s :: e)) := fun w ps' k1 k2 k3 => by
   refine ih ps' (s :: e) (w :: e') σ fun y hy => ?_
   by_cases hys : y = s
   ·subst hys
    exact .inl ⟨by simp, w, k1, by simp, by simp [ixN]⟩
   ·have hw := k3 y hy hys
    rcases h y (mem_fv_all.2 ⟨hy, hys⟩) with ⟨h1, y', h2, h3, h4⟩ | ⟨h1, h2, h3⟩
    ·rw [h2] at hw
     have hne : w ≠ y' := fun e => hw (by simp [fv, e])
     refine .inl ⟨by simp [h1], y', by rw [k2 y hy hys, h2], by simp [h3], ?_⟩
     rw [ixN_ne hne, ixN_ne (Ne.symm hys), h4]
    ·refine .inr ⟨by simp [hys, h1], fun x hx => ?_, by rw [k2 y hy hys, h3]⟩
     rw [k2 y hy hys] at hx
     simp only [List.mem_cons, not_or]
     exact ⟨fun e => hw (e ▸ hx), h2 x hx⟩
  simp only [sub, ← hq]
  split
  ·obtain ⟨z, hz⟩ : ∃ z, z = lett (ff (caught q ++ fv a)) := ⟨_, rfl⟩
   have hnew : z ∉ caught q ++ fv a := hz ▸ ff_new _
   simp only [List.mem_append, not_or] at hnew
   rw [← hz]
   simp only [db, sb]
   refine congrArg Db.all (key z (q ++ [(s, .var z)]) (by simp [lookD, look_append, hs, look]) (fun y h1 h2 => ?_) (fun y h1 h2 h3 => ?_))
   ·unfold lookD
    rw [look_append, ← hl y h1 h2]
    cases look y q with
    | none => simp [look, Ne.symm h2]
    | some u => rfl
   ·unfold lookD at h3
    rw [← hl y h1 h2] at h3
    cases hc : look y q with
    | none => rw [hc] at h3; simp [fv] at h3; subst h3; exact hnew.2 h1
    | some u => rw [hc] at h3; exact hnew.1 (hcau y u _ hc h3)
  ·rename_i hcap
   have hns : s ∉ caught q := fun h => hcap (memb_yes h)
   simp only [db, sb]
   refine congrArg Db.all (key s q (by simp [lookD, hs]) (fun y h1 h2 => by unfold lookD; rw [hl y h1 h2]) (fun y h1 h2 h3 => ?_))
   unfold lookD at h3
   rw [← hl y h1 h2] at h3
   cases hc : look y q with
   | none => rw [hc] at h3; simp [fv] at h3; exact h2 h3.symm
   | some u => rw [hc] at h3; exact hns (hcau y u _ hc h3)
 | _ => intro ps e e' σ h; rfl
theorem sb_fr (d : Db) : sb .fr d = d := by
 induction d with
 | app a b iha ihb => simp only [sb, iha, ihb]
 | all a ih => simp only [sb, ih]
 | _ => rfl
def nl : Tp → List ByteArray → ByteArray
 | .mt n, _ => ⟨#[63]⟩ ++ dcm n.toNat
 | .var s, x => if memb s x then ⟨#[35]⟩ ++ dcm (ixN x.reverse s) else ⟨#[39]⟩ ++ s
 | .con s, _ => s
 | .all s a, x => (⟨#[91]⟩ ++ nl a (x ++ [s])) ++ ⟨#[93]⟩
 | .app a b, x => ((((⟨#[40]⟩ ++ nl a x) ++ ⟨#[32]⟩) ++ nl b x) ++ ⟨#[41]⟩)
 | .no, _ => .empty
def tk (c : UInt8) : Bool := (48 ≤ c && c ≤ 57) || (65 ≤ c && c ≤ 90) || (97 ≤ c && c ≤ 122)
end Go.Proofs.YtgonkhaebmfgiaaGreatDoor
