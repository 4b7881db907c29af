/- Place by place, or sought and then put: the same answer. Plain Lean, no program. -/
import Derived.Test.YtigifkjcghkiiaaDoorL
set_option linter.unusedSimpArgs false
set_option linter.unusedVariables false
namespace Go.Proofs.YtigifkjcghkiiaaDoor
open Go Fp
set_option maxRecDepth 10000
set_option maxHeartbeats 4000000
set_option linter.unusedVariables false
set_option linter.unusedSimpArgs false

/-- Types in the place of variables, where no TAll stands. -/
def sbv (σ : ByteArray → Tp) : Tp → Tp
  | .var x => σ x
  | .app a b => .app (sbv σ a) (sbv σ b)
  | t => t
def vsT : Tp → List ByteArray
  | .var x => [x]
  | .app a b => vsT a ++ vsT b
  | _ => []
theorem sbv_congr {σ τ : ByteArray → Tp} : ∀ {p : Tp}, (∀ x ∈ vsT p, σ x = τ x) → sbv σ p = sbv τ p
  | .var x, h => h x (by simp [vsT])
  | .app a b, h => by rw [sbv, sbv, sbv_congr (p := a) fun x hx => h x (by simp [vsT, hx]), sbv_congr (p := b) fun x hx => h x (by simp [vsT, hx])]
  | .no, _ => rfl
  | .mt _, _ => rfl
  | .con _, _ => rfl
  | .all _ _, _ => rfl
theorem sbv_var : ∀ p : Tp, sbv .var p = p
  | .var x => rfl
  | .app a b => by rw [sbv, sbv_var a, sbv_var b]
  | .no => rfl
  | .mt _ => rfl
  | .con _ => rfl
  | .all _ _ => rfl
theorem sub_sbv {ps : Env'} : ∀ {p : Tp}, flat p → sub p ps = sbv (fun x => (look x ps).getD (.var x)) p
  | .var x, _ => by rw [sub, sbv]
  | .app a b, h => by rw [sub, sbv, sub_sbv h.1, sub_sbv h.2]
  | .no, _ => by rw [sub, sbv] <;> intros <;> simp_all
  | .mt _, _ => by rw [sub, sbv] <;> intros <;> simp_all
  | .con _, _ => by rw [sub, sbv] <;> intros <;> simp_all
  | .all _ _, h => h.elim
theorem fnd_off {x : ByteArray} : ∀ {p t : Tp}, x ∉ vsT p → fnd x p t = none
  | .var y, t, h => by rw [fnd, if_neg (fun e => h (by simp [vsT, e]))]
  | .app a b, .app c d, h => by
    simp [vsT] at h
    rw [fnd, fnd_off h.1, fnd_off h.2]; rfl
  | .app a b, .no, h => rfl
  | .app a b, .mt _, h => rfl
  | .app a b, .var _, h => rfl
  | .app a b, .con _, h => rfl
  | .app a b, .all _ _, h => rfl
  | .no, _, _ => rfl
  | .mt _, _, _ => rfl
  | .con _, _, _ => rfl
  | .all _ _, _, _ => rfl
theorem fnd_on {σ : ByteArray → Tp} {x : ByteArray} : ∀ {p : Tp}, x ∈ vsT p → fnd x p (sbv σ p) = some (σ x)
  | .var y, h => by simp [vsT] at h; subst h; rw [fnd, if_pos rfl]; rfl
  | .app a b, h => by
    rw [sbv, fnd]
    by_cases ha : x ∈ vsT a
    · rw [fnd_on ha]; rfl
    · rw [fnd_off ha]
      simp [vsT] at h
      exact fnd_on (h.resolve_left ha)
  | .no, h => by simp [vsT] at h
  | .mt _, h => by simp [vsT] at h
  | .con _, h => by simp [vsT] at h
  | .all _ _, h => by simp [vsT] at h

theorem smb_flat : ∀ {a b : Tp}, flat a → flat b → (smb a b [] [] = true ↔ a = b)
  | .var x, .var y, _, _ => by
    have e : ∀ s, pl [] s = -1 := fun s => by unfold pl memb; simp
    rw [smb, e, e]; simp
  | .app a b, .app c d, h, g => by rw [smb, Bool.and_eq_true, smb_flat h.1 g.1, smb_flat h.2 g.2, Tp.app.injEq]
  | .con x, .con y, _, _ => by rw [smb]; simp
  | .mt x, .mt y, _, _ => by rw [smb]; simp
  | .no, .no, _, _ => by rw [smb]; simp
  | .all _ _, _, h, _ => h.elim
  | _, .all _ _, _, h => h.elim
  | .var _, .app _ _, _, _ => by simp [smb]
  | .var _, .con _, _, _ => by simp [smb]
  | .var _, .mt _, _, _ => by simp [smb]
  | .var _, .no, _, _ => by simp [smb]
  | .app _ _, .var _, _, _ => by simp [smb]
  | .app _ _, .con _, _, _ => by simp [smb]
  | .app _ _, .mt _, _, _ => by simp [smb]
  | .app _ _, .no, _, _ => by simp [smb]
  | .con _, .var _, _, _ => by simp [smb]
  | .con _, .app _ _, _, _ => by simp [smb]
  | .con _, .mt _, _, _ => by simp [smb]
  | .con _, .no, _, _ => by simp [smb]
  | .mt _, .var _, _, _ => by simp [smb]
  | .mt _, .app _ _, _, _ => by simp [smb]
  | .mt _, .con _, _, _ => by simp [smb]
  | .mt _, .no, _, _ => by simp [smb]
  | .no, .var _, _, _ => by simp [smb]
  | .no, .app _ _, _, _ => by simp [smb]
  | .no, .con _, _, _ => by simp [smb]
  | .no, .mt _, _, _ => by simp [smb]

/-- What is put for a name so far. -/
def lkP (ns : List ByteArray) (l : Put) (x : ByteArray) : Option Tp := if memb x ns = true then (l[(ixI ns x).toNat]?).join else none
theorem lkP_set {ns : List ByteArray} {l : Put} (hl : l.length = ns.length) {x : ByteArray} (hx : memb x ns = true) (o : Option Tp) (y : ByteArray) : lkP ns (l.set (ixI ns x).toNat o) y = if y = x then o else lkP ns l y := by
  obtain ⟨k, hk, hkl, hkx⟩ := ixI_in hx
  unfold lkP
  by_cases hy : memb y ns = true
  · obtain ⟨j, hj, hjl, hjy⟩ := ixI_in hy
    rw [if_pos hy, if_pos hy, hk, hj, Int.toNat_natCast, Int.toNat_natCast]
    by_cases e : y = x
    · have : j = k := by subst e; rw [hj] at hk; exact Int.ofNat.inj hk
      subst this
      rw [if_pos e, List.getElem?_set_self (by omega)]; rfl
    · have : k ≠ j := fun h => by subst h; exact e (hjy.symm.trans hkx)
      rw [if_neg e, List.getElem?_set_ne this]
  · rw [if_neg hy, if_neg hy, if_neg (fun e : y = x => hy (by rw [e]; exact hx))]
/-- What would be put in the end. -/
def tht (ns : List ByteArray) (l : Put) (p t : Tp) (x : ByteArray) : Tp := if memb x ns = true then ((lkP ns l x).or (fnd x p t)).getD (.var x) else .var x
def FlP (l : Put) : Prop := ∀ u, some u ∈ l → flat u

theorem mtF_flat (ns : List ByteArray) : ∀ (p t : Tp) (l : Put), flat t → FlP l → FlP (mtF ns p t l).2
  | .var x, t, l, hg, h => by
    unfold mtF; split
    · split
      · exact h
      · intro u hu
        rcases List.mem_or_eq_of_mem_set hu with hu | hu
        · exact h u hu
        · injection hu with hu; subst hu; exact hg
    · exact h
  | .app a b, .app c d, l, hg, h => by
    unfold mtF; split
    · exact mtF_flat ns b d _ hg.2 (mtF_flat ns a c l hg.1 h)
    · exact mtF_flat ns a c l hg.1 h
  | .app a b, .no, l, _, h => h
  | .app a b, .mt _, l, _, h => h
  | .app a b, .var _, l, _, h => h
  | .app a b, .con _, l, _, h => h
  | .app a b, .all _ _, l, _, h => h
  | .no, _, _, _, h => h
  | .mt _, _, _, _, h => h
  | .con _, _, _, _, h => h
  | .all _ _, _, _, _, h => h

def Mspec (ns : List ByteArray) (p t : Tp) : Prop := ∀ l : Put, l.length = ns.length → FlP l → ((mtF ns p t l).1 = true ↔ sbv (tht ns l p t) p = t) ∧ ((mtF ns p t l).1 = true → ∀ x, lkP ns (mtF ns p t l).2 x = if memb x ns = true then (lkP ns l x).or (fnd x p t) else none)
theorem lkP_if {ns : List ByteArray} {l : Put} {x : ByteArray} : lkP ns l x = if memb x ns = true then lkP ns l x else none := by
  unfold lkP; split <;> rfl
theorem mspec_leaf {ns : List ByteArray} {p t : Tp} (h1 : ∀ l, mtF ns p t l = (decide (p = t), l)) (h2 : ∀ l, sbv (tht ns l p t) p = p) (h3 : ∀ x, memb x ns = true → fnd x p t = none) : Mspec ns p t := fun l hl hf => by
  rw [h1, h2]
  refine ⟨by simp, fun _ x => ?_⟩
  rw [lkP_if]
  by_cases hx : memb x ns = true
  · rw [if_pos hx, if_pos hx, h3 x hx, Option.or_none]
  · rw [if_neg hx, if_neg hx]
theorem mspec_var {ns : List ByteArray} {x : ByteArray} {t : Tp} (ht : flat t) : Mspec ns (.var x) t := fun l hl hf => by
  by_cases hx : memb x ns = true
  · obtain ⟨k, hk, hkl, hkx⟩ := ixI_in hx
    have hth : sbv (tht ns l (.var x) t) (.var x) = ((lkP ns l x).or (some t)).getD (.var x) := by
      rw [sbv, tht, if_pos hx, fnd, if_pos rfl]
    have hlk : lkP ns l x = (l[(ixI ns x).toNat]?).join := by rw [lkP, if_pos hx]
    cases hc : l[(ixI ns x).toNat]? with
    | none =>
      rw [hk, Int.toNat_natCast, List.getElem?_eq_getElem (by omega)] at hc; cases hc
    | some o =>
      rw [hc] at hlk
      cases o with
      | some u =>
        have hfu : flat u := hf u (List.mem_of_getElem? hc)
        have e : mtF ns (.var x) t l = (smb u t [] [], l) := by rw [mtF, if_pos hx, hc]
        have hlk : lkP ns l x = some u := hlk
        rw [e, hth, hlk]
        refine ⟨smb_flat hfu ht, fun _ y => ?_⟩
        rw [lkP_if]
        by_cases hy : memb y ns = true
        · rw [if_pos hy, if_pos hy, fnd]
          by_cases exy : x = y
          · subst exy; rw [if_pos rfl, hlk]; rfl
          · rw [if_neg exy, Option.or_none]
        · rw [if_neg hy, if_neg hy]
      | none =>
        have e : mtF ns (.var x) t l = (true, l.set (ixI ns x).toNat (some t)) := by rw [mtF, if_pos hx, hc]
        have hlk : lkP ns l x = none := hlk
        rw [e, hth, hlk]
        refine ⟨by simp, fun _ y => ?_⟩
        rw [lkP_set hl hx]
        by_cases hy : memb y ns = true
        · rw [if_pos hy, fnd]
          by_cases exy : y = x
          · subst exy; rw [if_pos rfl, if_pos rfl, hlk]; rfl
          · rw [if_neg exy, if_neg (Ne.symm exy), Option.or_none]
        · rw [if_neg hy, if_neg (fun e : y = x => hy (by rw [e]; exact hx)), lkP, if_neg hy]
  · refine mspec_leaf (fun l => by rw [mtF, if_neg hx]) (fun l => by rw [sbv, tht, if_neg hx]) (fun y hy => by rw [fnd, if_neg (fun e : x = y => hx (by rw [e]; exact hy))]) l hl hf

theorem mspec_app {ns : List ByteArray} {a b c d : Tp} (hc : flat c) (ha : Mspec ns a c) (hb : Mspec ns b d) : Mspec ns (.app a b) (.app c d) := fun l hl hf => by
  obtain ⟨a1, a2⟩ := ha l hl hf
  obtain ⟨b1, b2⟩ := hb (mtF ns a c l).2 (by rw [mtF_length, hl]) (mtF_flat ns a c l hc hf)
  have er : mtF ns (.app a b) (.app c d) l = if (mtF ns a c l).1 then mtF ns b d (mtF ns a c l).2 else (false, (mtF ns a c l).2) := by rw [mtF]
  have hth : ∀ x, tht ns l (.app a b) (.app c d) x = if memb x ns = true then ((lkP ns l x).or ((fnd x a c).or (fnd x b d))).getD (.var x) else .var x := fun x => by rw [tht, fnd]
  obtain ⟨θ, hθ⟩ : ∃ θ, θ = tht ns l (.app a b) (.app c d) := ⟨_, rfl⟩
  obtain ⟨η, hη⟩ : ∃ η, η = tht ns l a c := ⟨_, rfl⟩
  -- what either finds within a
  have k1 : sbv θ a = c → sbv η a = c := fun h => by
    rw [← h]
    refine sbv_congr fun x hx => ?_
    have h3 : fnd x a c = some (θ x) := by rw [← h]; exact fnd_on hx
    rw [hη, tht]
    by_cases hm : memb x ns = true
    · rw [if_pos hm, h3]
      have h4 := hth x
      rw [← hθ, if_pos hm, h3] at h4
      cases hl : lkP ns l x with
      | none => rfl
      | some u => rw [hl] at h4; exact h4.symm
    · rw [if_neg hm, hθ, hth, if_neg hm]
  have k2 : sbv η a = c → sbv θ a = c := fun h => by
    rw [← h]
    refine sbv_congr fun x hx => ?_
    have h3 : fnd x a c = some (η x) := by rw [← h]; exact fnd_on hx
    rw [hθ, hth]
    by_cases hm : memb x ns = true
    · rw [if_pos hm, h3]
      have h4 : η x = ((lkP ns l x).or (fnd x a c)).getD (.var x) := by rw [hη, tht, if_pos hm]
      rw [h3] at h4
      cases hl : lkP ns l x with
      | none => rfl
      | some u => rw [hl] at h4; exact h4.symm
    · rw [if_neg hm, hη, tht, if_neg hm]
  rw [← hη] at a1
  rw [← hθ, er]
  cases hq : (mtF ns a c l).1 with
  | false =>
    rw [hq] at a1
    refine ⟨⟨fun h => by simp at h, fun h => ?_⟩, fun h => by simp at h⟩
    rw [sbv, Tp.app.injEq] at h
    exact absurd (a1.2 (k1 h.1)) (by simp)
  | true =>
    have h5 := k2 (a1.1 hq)
    have a2 := a2 hq
    rw [if_pos rfl]
    have h6 : tht ns (mtF ns a c l).2 b d = θ := by
      funext x
      rw [hθ, hth, tht]
      by_cases hm : memb x ns = true
      · rw [if_pos hm, if_pos hm, a2, if_pos hm, Option.or_assoc]
      · rw [if_neg hm, if_neg hm]
    rw [h6] at b1
    refine ⟨b1.trans ⟨fun h => by rw [sbv, h5, h], fun h => by rw [sbv, Tp.app.injEq] at h; exact h.2⟩, fun h x => ?_⟩
    rw [b2 h, fnd]
    by_cases hm : memb x ns = true
    · rw [if_pos hm, if_pos hm, a2, if_pos hm, Option.or_assoc]
    · rw [if_neg hm, if_neg hm]

theorem mspec (ns : List ByteArray) : ∀ p t : Tp, flat p → flat t → Mspec ns p t
  | .var x, t, hp, ht => mspec_var ht
  | .app a b, .app c d, hp, ht => mspec_app ht.1 (mspec ns a c hp.1 ht.1) (mspec ns b d hp.2 ht.2)
  | .app a b, .no, hp, ht => fun l hl hf => ⟨by simp [mtF, sbv], fun h => by simp [mtF] at h⟩
  | .app a b, .mt _, hp, ht => fun l hl hf => ⟨by simp [mtF, sbv], fun h => by simp [mtF] at h⟩
  | .app a b, .var _, hp, ht => fun l hl hf => ⟨by simp [mtF, sbv], fun h => by simp [mtF] at h⟩
  | .app a b, .con _, hp, ht => fun l hl hf => ⟨by simp [mtF, sbv], fun h => by simp [mtF] at h⟩
  | .app a b, .all _ _, hp, ht => ht.elim
  | .all _ _, t, hp, ht => hp.elim
  | .no, t, hp, ht => mspec_leaf (fun l => rfl) (fun l => rfl) (fun x _ => rfl)
  | .mt _, t, hp, ht => mspec_leaf (fun l => rfl) (fun l => rfl) (fun x _ => rfl)
  | .con _, t, hp, ht => mspec_leaf (fun l => rfl) (fun l => rfl) (fun x _ => rfl)
end Go.Proofs.YtigifkjcghkiiaaDoor

namespace Go.Proofs.YtigifkjcghkiiaaDoor
open Go Fp
set_option maxRecDepth 10000
set_option maxHeartbeats 4000000
set_option linter.unusedVariables false
set_option linter.unusedSimpArgs false

theorem look_psF (f : ByteArray → Option Tp) (ns : List ByteArray) (x : ByteArray) : look x (psF f ns) = if memb x ns = true then some ((f x).getD (.var x)) else none := by
  induction ns with
  | nil => rw [if_neg (by simp [memb])]; rfl
  | cons y ns ih =>
    show (if y = x then some ((f y).getD (.var y)) else look x (psF f ns)) = _
    by_cases e : y = x
    · subst e; rw [if_pos rfl, if_pos (memb_yes (by simp))]
    · rw [if_neg e, ih]
      have : memb x (y :: ns) = memb x ns := by
        unfold memb
        have : (x ∈ y :: ns) ↔ x ∈ ns := by simp [Ne.symm e]
        exact decide_eq_decide.2 this
      rw [this]
theorem lkP_pt0 (ns : List ByteArray) (x : ByteArray) : lkP ns (pt0 ns.length) x = none := by
  unfold lkP
  split
  · rename_i h
    obtain ⟨k, hk, hkl, _⟩ := ixI_in h
    rw [hk, Int.toNat_natCast]
    simp [pt0, hkl]
  · rfl
theorem sub_psF {ns : List ByteArray} {p t : Tp} (hp : flat p) : sub p (psF (fun x => fnd x p t) ns) = sbv (tht ns (pt0 ns.length) p t) p := by
  rw [sub_sbv hp]
  refine sbv_congr fun x _ => ?_
  rw [look_psF, tht, lkP_pt0, Option.none_or]
  split <;> rfl
theorem match_iff {ns : List ByteArray} {p t : Tp} (hp : flat p) (ht : flat t) : (mtF ns p t (pt0 ns.length)).1 = true ↔ sub p (psF (fun x => fnd x p t) ns) = t := by
  rw [sub_psF hp]
  exact (mspec ns p t hp ht (pt0 ns.length) (by simp [pt0]) (fun u hu => by simp [pt0] at hu)).1
theorem match_out {ns : List ByteArray} (hn : ns.Nodup) {p t : Tp} (hp : flat p) (ht : flat t) (h : (mtF ns p t (pt0 ns.length)).1 = true) : (mtF ns p t (pt0 ns.length)).2 = ns.map fun x => fnd x p t := by
  have k := (mspec ns p t hp ht (pt0 ns.length) (by simp [pt0]) (fun u hu => by simp [pt0] at hu)).2 h
  have hl : (mtF ns p t (pt0 ns.length)).2.length = ns.length := by rw [mtF_length]; simp [pt0]
  refine List.ext_getElem (by simp [hl]) fun i h1 h2 => ?_
  have hi : i < ns.length := by omega
  have hm : memb ns[i] ns = true := memb_yes (List.getElem_mem hi)
  have hix : ixI ns ns[i] = (i : Nat) := ixI_at hi rfl fun j hj e => by
    rw [List.getElem?_eq_getElem (by omega)] at e
    injection e with e
    have := (List.getElem_inj hn).1 e
    omega
  have k := k ns[i]
  rw [if_pos hm, lkP_pt0, Option.none_or, lkP, if_pos hm, hix, Int.toNat_natCast, List.getElem?_eq_getElem h1] at k
  rw [List.getElem_map]
  exact k
theorem fnd_sub {P : Tp → Prop} (hP : ∀ a b, P (.app a b) → P a ∧ P b) {x : ByteArray} : ∀ {p t u : Tp}, fnd x p t = some u → P t → P u
  | .var y, t, u, h, ht => by
    rw [fnd] at h; split at h
    · injection h with h; subst h; exact ht
    · cases h
  | .app a b, .app c d, u, h, ht => by
    rw [fnd, Option.or_eq_some_iff] at h
    rcases h with h | ⟨_, h⟩
    · exact fnd_sub hP h (hP _ _ ht).1
    · exact fnd_sub hP h (hP _ _ ht).2
theorem sbv_good {σ : ByteArray → Tp} : ∀ {p : Tp}, good p → flat p → (∀ x, x ∈ small4 → good (σ x)) → good (sbv σ p)
  | .var x, h, _, hs => hs x h
  | .app a b, h, hf, hs => ⟨sbv_good h.1 hf.1 hs, sbv_good h.2 hf.2 hs⟩
  | .con _, h, _, _ => h
  | .mt _, h, _, _ => h
theorem sbv_tsz {σ : ByteArray → Tp} {k : Nat} (hk : 1 ≤ k) (h : ∀ x, tsz (σ x) ≤ k) : ∀ p : Tp, flat p → tsz (sbv σ p) ≤ k * tsz p
  | .var x, _ => by have := h x; simp only [sbv, tsz]; omega
  | .app a b, hf => by have := sbv_tsz hk h a hf.1; have := sbv_tsz hk h b hf.2; simp only [sbv, tsz, Nat.mul_add]; omega
  | .no, _ => by simp only [sbv, tsz]; omega
  | .con _, _ => by simp only [sbv, tsz]; omega
  | .mt _, _ => by simp only [sbv, tsz]; omega
theorem sbv_flat {σ : ByteArray → Tp} (h : ∀ x, flat (σ x)) : ∀ {p : Tp}, flat p → flat (sbv σ p)
  | .var x, _ => h x
  | .app a b, hf => ⟨sbv_flat h hf.1, sbv_flat h hf.2⟩
  | .no, _ => trivial
  | .con _, _ => trivial
  | .mt _, _ => trivial
theorem tht_good {ns : List ByteArray} {p t : Tp} (gt : good t) : ∀ x, x ∈ small4 → good (tht ns (pt0 ns.length) p t x) := fun x hx => by
  rw [tht, lkP_pt0, Option.none_or]
  split
  · cases h : fnd x p t with
    | none => exact hx
    | some u => exact fnd_sub (P := good) (fun a b h => h) h gt
  · exact hx

/-- The code's and the document's: one answer. -/
theorem match_both {ns : List ByteArray} (hn : ns.length < 1000) (hnd : ns.Nodup) (h4 : ∀ x ∈ ns, x ∈ small4) {p t : Tp} (gp : good p) (fp : flat p) (zp : p.sz ≤ 193) (gt : good t) (ft : flat t) (zt : t.sz < 1000000)
    (hz : (sub p (psF (fun x => fnd x p t) ns)).sz ≤ 1000000) :
    ∃ (q : Bool) (X : List Tp), (q = true ↔ sub p (psF (fun x => fnd x p t) ns) = t) ∧ X.length < 1000 ∧
      (q = true → X = outL (ns.map fun x => fnd x p t)) ∧
      ACall Tryd.prog n_unify_Match [.sl (eSs ns), eTy p, eTy t] (.tup [.sl (eTys X), .sb q]) ∧ ACall Tryd.prog n_fugueref09_Match [.sl (eSs ns), eTy p, eTy t] (.tup [.sl (eTys X), .sb q]) := by
  have hI := match_iff (ns := ns) fp ft
  have hO := match_out hnd fp ft
  have hC := Match_ok (ns := ns) (by omega) fp gt zt
  obtain ⟨q, hq⟩ : ∃ q, q = (mtF ns p t (pt0 ns.length)).1 := ⟨_, rfl⟩
  rw [← hq] at hI hO hC
  have gs : good (sub p (psF (fun x => fnd x p t) ns)) := by rw [sub_psF fp]; exact sbv_good gp fp (tht_good gt)
  have fs : flat (sub p (psF (fun x => fnd x p t) ns)) := by
    rw [sub_psF fp]
    refine sbv_flat (fun x => ?_) fp
    rw [tht, lkP_pt0, Option.none_or]
    split
    · cases h : fnd x p t with
      | none => trivial
      | some u => exact fnd_sub (P := flat) (fun a b h => h) h ft
    · trivial
  have hfit : Fit 24 p (psF (fun x => fnd x p t) ns) := by
    have hps : ∀ r ∈ psF (fun x => fnd x p t) ns, good r.2 ∧ r.2.sz < 1000000 := fun r hr => by
      obtain ⟨x, hx, rfl⟩ := List.mem_map.1 hr
      cases h : fnd x p t with
      | none => show good ((fnd x p t).getD (.var x)) ∧ ((fnd x p t).getD (.var x)).sz < 1000000; rw [h]; exact ⟨h4 x hx, by simp [Tp.sz]⟩
      | some u =>
        show good ((fnd x p t).getD (.var x)) ∧ ((fnd x p t).getD (.var x)).sz < 1000000
        rw [h]
        exact ⟨fnd_sub (P := good) (fun a b h => h) h gt, fnd_sub (P := fun u => u.sz < 1000000) (fun a b h => by simp only [Tp.sz] at h; constructor <;> omega) h zt⟩
    have hd := dp_sz p
    have hl : (psF (fun x => fnd x p t) ns).length = ns.length := by simp [psF]
    exact ⟨good_low gp, fun r hr => good_low (hps r hr).1, by omega, by omega, by omega, fun r hr => (hps r hr).2⟩
  have hS := rsubst_ok p.sz p (Nat.le_refl _) 24 _ hfit
  have hQ := rSame_ok (K := 24) (by decide) (good_low gs) (good_low gt) (good_nm gs) (good_nm gt) hz (by omega)
  have hqq : decide (nl (sub p (psF (fun x => fnd x p t) ns)) [] = nl t []) = q := by
    rw [Bool.eq_iff_iff, decide_eq_true_iff, nl_iff (good_low gs) (good_low gt) (good_nm gs) (good_nm gt), smb_flat fs ft, hI]
  rw [hqq] at hQ
  have hR := RMatch_ok hn fp ft hS hQ
  cases q with
  | false => exact ⟨false, [], hI, by simp, fun h => by simp at h, hC, hR⟩
  | true =>
    rw [hO rfl] at hC
    exact ⟨true, outL (ns.map fun x => fnd x p t), hI, by simp [outL]; omega, fun _ => rfl, hC, hR⟩
/-- What a type makes with types put is found so. -/
theorem match_put {ns : List ByteArray} {p : Tp} (fp : flat p) {ps : Env'} (h : ∀ x, memb x ns = false → look x ps = none) : sub p (psF (fun x => fnd x p (sub p ps)) ns) = sub p ps := by
  rw [sub_psF fp, sub_sbv (ps := ps) fp]
  refine sbv_congr fun x hx => ?_
  rw [tht, lkP_pt0, Option.none_or]
  by_cases hm : memb x ns = true
  · rw [if_pos hm, fnd_on hx]; rfl
  · rw [if_neg hm, h x (by simpa using hm)]; rfl
end Go.Proofs.YtigifkjcghkiiaaDoor

namespace Go.Proofs.YtigifkjcghkiiaaDoor
open Go Fp
set_option maxRecDepth 10000
set_option maxHeartbeats 16000000
set_option linter.unusedVariables false
set_option linter.unusedSimpArgs false

theorem Names_ok {n : Int} (hn : InR n) : ∃ ns : List ByteArray, ns.length ≤ 4 ∧ ns.Nodup ∧ (∀ x ∈ ns, x ∈ small4) ∧ ACall Tryd.prog n_fugueref09_Names [.lit (.int .i64 n)] (.sl (eSs ns)) := by
  obtain ⟨r, hr, hc⟩ := around_ok hn (m := 5) (by decide) (by decide)
  have hr : r < 5 := by omega
  obtain ⟨f, hf⟩ : ∃ f : Nat → ByteArray, f = fun i => small4.getD (i % 4) .empty := ⟨_, rfl⟩
  refine ⟨(List.range r).map f, by simp; omega, ?_, fun x hx => ?_, ?_⟩
  · rw [List.nodup_iff_pairwise_ne]
    refine List.pairwise_map.2 (List.Pairwise.imp_of_mem (fun {i j} hi hj h e => h ?_) List.nodup_range)
    have hi : i < r := by simpa using hi
    have hj : j < r := by simpa using hj
    rw [hf] at e
    have := small4_inj (by omega) (by omega) e
    omega
  · obtain ⟨i, hi, rfl⟩ := List.mem_map.1 hx
    rw [hf]; exact small4_get (by omega)
  · refine acall_of_wcx ttok mixed Tryd.func23 rfl (by rfl) (Nat.le_of_ble_eq_true rfl) (by kernel_rfl) ?_
    refine ⟨{k : Nat // k ≤ r}, fun k => { vs := [(0, .v (.lit (.int .i64 n))), (3, .v (.sl (eSs ((List.range k.1).map f)))), (4, .v (.lit (.int .i64 (k.1 : Nat))))], ow := [(3, 0, 2)] },
      fun k => r - k.1, ⟨0, Nat.zero_le _⟩, ⟨⟨rfl, rfl, rfl, trivial⟩, ⟨trivial, trivial⟩, rfl⟩, ?_⟩
    rintro ⟨k, hk⟩
    refine .inl ⟨_, hc, ?_⟩
    refine ⟨fun h => ?_, fun h => ?_⟩
    · have h : k < r := by have h := of_decide_eq_true h; simp only at h; omega
      refine .inl ⟨_, name_nn (n := k) (by omega), ?_⟩
      refine ⟨by simp [eSs]; omega, uniS _, uniS [_], ?_⟩
      refine ⟨⟨k + 1, h⟩, (show r - (k + 1) < r - k by omega), ⟨rfl, ?_, svc (wrap_succ (k := k) (by omega)), trivial⟩, ⟨rfl, trivial⟩, rfl⟩
      have : eSs ((List.range k).map f) ++ [.lit (.string (f k))] = eSs ((List.range (k + 1)).map f) := by rw [List.range_succ]; simp [eSs]
      rw [hf] at this ⊢
      exact congrArg (fun l => SV.v (AV.sl l)) this
    · have h : k = r := by have h := of_decide_eq_false h; simp only at h; omega
      subst h
      exact rfl
end Go.Proofs.YtigifkjcghkiiaaDoor

namespace Go.Proofs.YtigifkjcghkiiaaDoor
open Go Fp
set_option maxRecDepth 10000
set_option maxHeartbeats 16000000
set_option linter.unusedVariables false
set_option linter.unusedSimpArgs false

theorem tht_tsz {ns : List ByteArray} {p t : Tp} {k : Nat} (hk : 1 ≤ k) (ht : t.sz ≤ k) (x : ByteArray) : tsz (tht ns (pt0 ns.length) p t x) ≤ k := by
  rw [tht, lkP_pt0, Option.none_or]
  split
  · cases h : fnd x p t with
    | none => simp [tsz]; omega
    | some u =>
      have h1 : u.sz ≤ k := fnd_sub (P := fun u => u.sz ≤ k) (fun a b h => by simp only [Tp.sz] at h; constructor <;> omega) h ht
      have := (sz_tsz u).2
      simp only [Option.getD_some]; omega
  · simp [tsz]; omega
/-- What is put, by places. -/
def putG (f : List Int → Tp) (by' : List (List Int)) (i : Nat) : Tp := if i < by'.length then f (by'.getD i []) else .con sI
theorem putG_snoc (f : List Int → Tp) (by' : List (List Int)) (k : Nat) : eTys ((List.range k).map (putG f by')) ++ [eTy (putG f by' k)] = eTys ((List.range (k + 1)).map (putG f by')) := by
  rw [List.range_succ]; simp [eTys]

theorem unifyMatches_ok {l m : List Int} (hl : l.length < 9223372036854775808) (hr : ∀ x ∈ l, InR x) (hm : m.length < 9223372036854775808) (hmr : ∀ x ∈ m, InR x) {n : Int} (hn : InR n) {by' : List (List Int)} (hll : by'.length < 9223372036854775808) (hb : ∀ r ∈ by', (∀ x ∈ r, InR x) ∧ r.length < 9223372036854775808) :
    ACall Tryd.prog n_fuguelaw09_UnifyMatches [.sl (eIs l), .sl (eIs m), .lit (.int .i64 n), .sl (eRows by')] (.sb true) := by
  obtain ⟨p, hP, gp, fp, zp⟩ := plain_ok hl hr
  obtain ⟨t, hP2, gt, ft, zt⟩ := plain_ok hm hmr
  obtain ⟨ns, hns, hnd, hs4, hN⟩ := Names_ok hn
  have hx : ∀ r : List Int, ∃ u : Tp, r ∈ by' → ACall Tryd.prog n_fugueref04_Plain [.sl (eIs r)] (eTy u) ∧ good u ∧ flat u ∧ u.sz ≤ 193 := fun r => by
    by_cases h : r ∈ by'
    · obtain ⟨u, h1, h2, h3, h4⟩ := plain_ok (hb r h).2 (hb r h).1
      exact ⟨u, fun _ => ⟨h1, h2, h3, h4⟩⟩
    · exact ⟨.no, fun h' => absurd h' h⟩
  obtain ⟨f, hf⟩ := Classical.axiomOfChoice hx
  have hel : (eRows by').length = by'.length := by simp [eRows]
  have hsl : (eSs ns).length = ns.length := by simp [eSs]
  have hget : ∀ k (h : k < by'.length), by'.getD k [] = by'[k] := fun k h => by rw [List.getD_eq_getElem?_getD, List.getElem?_eq_getElem h]; rfl
  have hg : ∀ i, good (putG f by' i) ∧ flat (putG f by' i) ∧ (putG f by' i).sz ≤ 193 := fun i => by
    unfold putG
    split
    · rename_i h
      obtain ⟨_, h2, h3, h4⟩ := hf (by'.getD i []) (by rw [hget i h]; exact List.getElem_mem _)
      exact ⟨h2, h3, h4⟩
    · exact ⟨by show _ ∈ small6; simp [small6, sI], trivial, by simp [Tp.sz]⟩
  obtain ⟨us, hus⟩ : ∃ us, us = (List.range ns.length).map (putG f by') := ⟨_, rfl⟩
  have husl : us.length = ns.length := by simp [hus]
  have husg : ∀ u ∈ us, good u ∧ flat u ∧ u.sz ≤ 193 := fun u hu => by
    rw [hus] at hu
    obtain ⟨i, _, rfl⟩ := List.mem_map.1 hu; exact hg i
  obtain ⟨ps, hps⟩ : ∃ ps : Env', ps = ns.zip us := ⟨_, rfl⟩
  have hps1 : ps.map (·.1) = ns := by rw [hps, List.map_fst_zip (by omega)]
  have hps2 : ps.map (·.2) = us := by rw [hps, List.map_snd_zip (by omega)]
  have hpl : ps.length = ns.length := by rw [← hps1]; simp
  have hpm : ∀ r ∈ ps, good r.2 ∧ flat r.2 ∧ r.2.sz ≤ 193 := fun r hr => husg _ (by rw [← hps2]; exact List.mem_map.2 ⟨r, hr, rfl⟩)
  have hfit : Fit 24 p ps := by
    have := dp_sz p
    exact ⟨good_low gp, fun r hr => good_low (hpm r hr).1, by omega, by omega, by omega, fun r hr => by have := (hpm r hr).2.2; omega⟩
  have hS := rsubst_ok p.sz p (Nat.le_refl _) 24 ps hfit
  unfold rsubstSays eN eB at hS
  rw [hps1, hps2] at hS
  have hlk : ∀ x, good (Tp.var x) → good ((look x ps).getD (.var x)) := fun x hx => by
    cases h : look x ps with
    | none => exact hx
    | some u => exact (hpm _ (look_mem h)).1
  have gs : good (sub p ps) := by rw [sub_sbv fp]; exact sbv_good gp fp fun x hx => hlk x hx
  have fs : flat (sub p ps) := by
    rw [sub_sbv fp]
    refine sbv_flat (fun x => ?_) fp
    cases h : look x ps with
    | none => trivial
    | some u => exact (hpm _ (look_mem h)).2.1
  have htp := (sz_tsz p).2
  have z2 : (sub p ps).sz ≤ 100000 := by
    have h1 := sbv_tsz (σ := fun x => (look x ps).getD (.var x)) (k := 193) (by decide) (fun x => by
      cases h : look x ps with
      | none => simp [tsz]
      | some u => have h2 := (hpm _ (look_mem h)).2.2; have := (sz_tsz u).2; simp only [Option.getD_some]; simp only at h2; omega) p fp
    rw [← sub_sbv fp] at h1
    have := (sz_tsz (sub p ps)).1
    omega
  have hno : ∀ x, memb x ns = false → look x ps = none := fun x hx => by
    cases h : look x ps with
    | none => rfl
    | some u =>
      have : x ∈ ns := by rw [← hps1]; exact List.mem_map.2 ⟨_, look_mem h, rfl⟩
      rw [memb_yes this] at hx; cases hx
  have e2 := match_put fp hno
  have e3 : sub p (psF (fun x => fnd x p p) ns) = p := by
    have h := match_put (ns := ns) fp (ps := []) (fun _ _ => rfl)
    have hpp : sub p [] = p := by rw [sub_sbv fp]; exact sbv_var p
    rwa [hpp] at h
  have z1 : (sub p (psF (fun x => fnd x p t) ns)).sz ≤ 1000000 := by
    rw [sub_psF fp]
    have h1 := sbv_tsz (σ := tht ns (pt0 ns.length) p t) (k := 193) (by decide) (tht_tsz (by decide) zt) p fp
    have := (sz_tsz (sbv (tht ns (pt0 ns.length) p t) p)).1
    omega
  have hM : ∀ i (h : i < [t, sub p ps, p].length), ∃ (q : Bool) (X : List Tp), (0 < i → q = true) ∧ X.length < 1000 ∧ ACall Tryd.prog n_unify_Match [.sl (eSs ns), eTy p, eTy [t, sub p ps, p][i]] (.tup [.sl (eTys X), .sb q]) ∧ ACall Tryd.prog n_fugueref09_Match [.sl (eSs ns), eTy p, eTy [t, sub p ps, p][i]] (.tup [.sl (eTys X), .sb q]) := fun i h => by
    match i, h with
    | 0, h =>
      obtain ⟨q, X, _, h2, _, h3, h4⟩ := match_both (by omega) hnd hs4 gp fp zp gt ft (by omega) z1
      exact ⟨q, X, fun h => by omega, h2, h3, h4⟩
    | 1, h =>
      obtain ⟨q, X, h1, h2, _, h3, h4⟩ := match_both (by omega) hnd hs4 gp fp zp gs fs (by omega) (by rw [e2]; omega)
      exact ⟨q, X, fun _ => h1.2 e2, h2, h3, h4⟩
    | 2, h =>
      obtain ⟨q, X, h1, h2, _, h3, h4⟩ := match_both (by omega) hnd hs4 gp fp zp gp fp (by omega) (by rw [e3]; omega)
      exact ⟨q, X, fun _ => h1.2 e3, h2, h3, h4⟩
    | i + 3, h => exact absurd h (by simp)
  obtain ⟨A, hA⟩ : ∃ A, A = [t, sub p ps, p] := ⟨_, rfl⟩
  have hAl : A.length = 3 := by rw [hA]; rfl
  rw [← hA] at hM
  have tail : Wsem Tryd.prog (sndC (sndC (sndC (sndC (sndC (sndC (bodyC Tryd.f6))))))) (mkC { vs := [(9, .box 0 (eTy p)), (10, .box 0 (eTy t)), (11, .v (.sl (eSs ns))), (12, .v (.sl (eTys us)))] })
      (fun c => RetP tt Tryd.f6.results.toList (.sb true) (den c)) (fun _ _ => False) (fun c => RetP tt Tryd.f6.results.toList (.sb true) (den c)) := by
    refine Wsem.seq ttok mixed ?_
    refine .inl ⟨_, hS, ?_⟩
    refine ⟨by kernel_rfl, ?_⟩
    refine Wsem.of ttok mixed ?_
    refine ⟨{i : Nat // i ≤ 3}, fun i => { vs := [(9, .box 0 (eTy p)), (11, .v (.sl (eSs ns))), (14, .v (.sl (eTys A))), (15, .v (.lit (.int .i64 (i.1 : Nat))))] },
      fun i => 3 - i.1, ⟨0, Nat.zero_le _⟩, ⟨⟨rfl, rfl, by rw [hA]; rfl, rfl, trivial⟩, trivial, rfl⟩, ?_⟩
    rintro ⟨i, hi⟩
    refine ⟨fun h => ?_, fun h => ?_⟩
    · have h : i < 3 := by have h := of_decide_eq_true h; simp only at h; omega
      have hiA : i < A.length := by omega
      obtain ⟨q, X, hq, hX, h1, h2⟩ := hM i hiA
      refine ⟨_, by omega, getT hiA, rfl, ?_⟩
      refine .inl ⟨_, h1, ?_⟩
      refine ⟨by kernel_rfl, ?_⟩
      refine ⟨_, by omega, getT hiA, rfl, ?_⟩
      refine .inl ⟨_, h2, ?_⟩
      refine ⟨by kernel_rfl, ?_⟩
      refine ⟨fun hbs => ?_, fun hbs => ?_⟩ <;> first | (exfalso; revert hbs; (simp); done) | skip
      refine ⟨fun hbs => ?_, fun hbs => ?_⟩ <;> first | (exfalso; revert hbs; (simp); done) | skip
      have hXl : (eTys X).length = X.length := by simp [eTys]
      refine ⟨{k : Nat // k ≤ X.length}, fun k => { vs := [(9, .box 0 (eTy p)), (11, .v (.sl (eSs ns))), (14, .v (.sl (eTys A))), (15, .v (.lit (.int .i64 (i : Nat)))), (16, .v (.sl (eTys X))), (17, .v (.sb q)), (18, .v (.sl (eTys X))), (20, .v (.lit (.int .i64 (k.1 : Nat))))] },
        fun k => X.length - k.1, ⟨0, Nat.zero_le _⟩, ⟨⟨rfl, rfl, rfl, rfl, rfl, rfl, rfl, rfl, trivial⟩, trivial, rfl⟩, ?_⟩
      rintro ⟨k, hk⟩
      refine ⟨fun h => ?_, fun h => ?_⟩
      · have h : k < X.length := by simp [hXl] at h; omega
        refine ⟨_, by omega, getT h, rfl, ?_⟩
        refine ⟨_, by omega, getT h, rfl, ?_⟩
        refine .inl ⟨_, equal_ok _ _, ?_⟩
        refine ⟨by kernel_rfl, ?_⟩
        refine ⟨fun hbs => ?_, fun hbs => ?_⟩ <;> first | (exfalso; revert hbs; (simp); done) | skip
        refine ⟨⟨k + 1, h⟩, (show X.length - (k + 1) < X.length - k by omega), ⟨rfl, rfl, rfl, rfl, rfl, rfl, rfl, svc (wrap_succ (k := k) (by omega)), trivial⟩, trivial, rfl⟩
      · by_cases h0 : 0 < i
        · have hq := hq h0
          subst hq
          refine ⟨fun hbs => ?_, fun hbs => ?_⟩ <;> first | (exfalso; revert hbs; (simp [h0]); done) | skip
          refine ⟨fun hbs => ?_, fun hbs => ?_⟩ <;> first | (exfalso; revert hbs; (simp); done) | skip
          refine ⟨⟨i + 1, by omega⟩, (show 3 - (i + 1) < 3 - i by omega), ⟨rfl, rfl, rfl, svc (wrap_succ (k := i) (by omega)), trivial⟩, trivial, rfl⟩
        · refine ⟨fun hbs => ?_, fun hbs => ?_⟩ <;> first | (exfalso; revert hbs; (simp [h0]); done) | skip
          refine ⟨⟨i + 1, by omega⟩, (show 3 - (i + 1) < 3 - i by omega), ⟨rfl, rfl, rfl, svc (wrap_succ (k := i) (by omega)), trivial⟩, trivial, rfl⟩
    · refine .inl ⟨_, lives_ok, ?_⟩
      exact rfl
  refine acall_of_wsem ttok mixed Tryd.func6 rfl (by rfl) (Nat.le_of_ble_eq_true rfl) (by kernel_rfl) ?_
  refine Wsem.seq ttok mixed ?_
  refine Wsem.seq ttok mixed ?_
  refine .inl ⟨_, hP, ?_⟩
  refine Wsem.seq ttok mixed ?_
  refine .inl ⟨_, hP2, ?_⟩
  refine Wsem.seq ttok mixed ?_
  refine .inl ⟨_, hN, ?_⟩
  refine Wsem.seq ttok mixed ?_
  refine Wsem.seq ttok mixed ?_
  refine ⟨{k : Nat // k ≤ ns.length}, fun k => { vs := [(3, .v (.sl (eRows by'))), (9, .box 0 (eTy p)), (10, .box 0 (eTy t)), (11, .v (.sl (eSs ns))), (12, .v (.sl (eTys ((List.range k.1).map (putG f by'))))), (13, .v (.lit (.int .i64 (k.1 : Nat))))], ow := [(12, 0, 5)] },
    fun k => ns.length - k.1, ⟨0, Nat.zero_le _⟩, ⟨⟨rfl, rfl, rfl, rfl, rfl, rfl, trivial⟩, ⟨trivial, trivial⟩, rfl⟩, ?_⟩
  rintro ⟨k, hk⟩
  have hsn := putG_snoc f by' k
  refine ⟨fun h => ?_, fun h => ?_⟩
  · have h : k < ns.length := by simp [hsl] at h; omega
    refine ⟨fun h3 => ?_, fun h3 => ?_⟩
    · have h3 : k < by'.length := by simp [hel] at h3; omega
      rw [show putG f by' k = f by'[k] by unfold putG; rw [if_pos h3, hget k h3]] at hsn
      refine ⟨.sl (eIs by'[k]), by omega, by simp [eRows, h3], rfl, ?_⟩
      refine .inl ⟨_, (hf _ (List.getElem_mem h3)).1, ?_⟩
      refine ⟨by simp [eTys]; omega, uniT _, uniT [_], ?_⟩
      refine ⟨⟨k + 1, h⟩, (show ns.length - (k + 1) < ns.length - k by omega), ⟨rfl, rfl, rfl, rfl, ?_, svc (wrap_succ (k := k) (by omega)), trivial⟩, ⟨rfl, trivial⟩, rfl⟩
      exact congrArg (fun l => SV.v (AV.sl l)) hsn
    · have h3 : ¬ k < by'.length := by simp [hel] at h3; omega
      rw [show putG f by' k = .con sI by unfold putG; rw [if_neg h3]] at hsn
      refine ⟨by simp [eTys]; omega, uniT _, uniT [.con sI], ?_⟩
      refine ⟨⟨k + 1, h⟩, (show ns.length - (k + 1) < ns.length - k by omega), ⟨rfl, rfl, rfl, rfl, ?_, svc (wrap_succ (k := k) (by omega)), trivial⟩, ⟨rfl, trivial⟩, rfl⟩
      exact congrArg (fun l => SV.v (AV.sl l)) hsn
  · have h : k = ns.length := by simp [hsl] at h; omega
    subst h
    rw [← hus]
    refine Wsem.cut _ ?_ tail
    exact ⟨⟨rfl, rfl, rfl, rfl, trivial⟩, trivial, rfl⟩
end Go.Proofs.YtigifkjcghkiiaaDoor
