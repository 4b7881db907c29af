/- The reference's 'New'. No condition. -/
import Derived.Test.YtefdahofpjmnfaaL14
set_option linter.unusedSimpArgs false
set_option linter.unusedVariables false
namespace Go.Proofs.Ytefdahofpjmnfaa
open Go Fp
set_option maxRecDepth 10000
set_option maxHeartbeats 16000000

theorem not_t {b : Bool} (h : (!b) = true) : b = false := by cases b <;> simp_all
theorem not_f {b : Bool} (h : (!b) = false) : b = true := by cases b <;> simp_all
theorem any_take {α : Type} {l : List α} {f : α → Bool} {k : Nat} (h : k < l.length) : (l.take (k + 1)).any f = ((l.take k).any f || f l[k]) := by
  rw [List.take_succ_eq_append_getElem h, List.any_append]; simp
theorem any_take_true {α : Type} {l : List α} {f : α → Bool} {k : Nat} (h : (l.take k).any f = true) : l.any f = true := by
  rw [List.any_eq_true] at h ⊢
  obtain ⟨x, hx, h⟩ := h
  exact ⟨x, List.mem_of_mem_take hx, h⟩

theorem New20_ok : ∀ (n : Nat) (l : List Rw) (r : Rw) (cs : List Nat), RowsTy cs n (r :: l) →
    ACall Try.prog n_fugueref20_New [.sl (wTab.map eD), .sl (eRrs l), eRr r] (.sb (fresh n l r)) := by
  intro n
  induction n with
  | zero => intro l r cs h; have := h.fuel; omega
  | succ n ih =>
    intro l r cs h
    have hrt := h.tys r (by simp)
    have hcap := h.cap
    have hrl := h.row r (by simp)
    have hpl := hrt.len
    have hlt := h.tail
    have hll := hlt.len
    cases cs with
    | nil =>
      have hr0 : r.ps = [] := List.length_eq_zero_iff.1 (by simpa using hpl)
      have hl0 : (ePts r.ps).length = 0 := by rw [lenP, hr0]; rfl
      refine acall_of_wc ttok mixed Try.func32 rfl (by rfl) (Nat.le_of_ble_eq_true rfl) (by kernel_rfl) ?_
      refine ⟨fun _ => ?_, fun h => by have := of_decide_eq_false h; rw [hl0] at this; exact absurd rfl this⟩
      rw [fresh, hr0]
      cases l with
      | nil => exact rfl
      | cons q l => exact (congrArg AV.sb (show decide ((((eRrs (q :: l)).length : Nat) : Int) = 0) = false by simp [eRrs]; omega))
    | cons t cs =>
      obtain ⟨p, hp0, hty⟩ := hrt.get (a := 0) (t := t) rfl
      have hps : ∃ ps, r.ps = p :: ps := by
        cases hq : r.ps with
        | nil => rw [hq] at hp0; simp at hp0
        | cons p' ps => rw [hq] at hp0; simp at hp0; subst hp0; exact ⟨ps, rfl⟩
      obtain ⟨ps, hps⟩ := hps
      have hp' : (ePts r.ps)[0]? = some (ePt p) := by simp [ePts, hp0]
      have hlen0 : (ePts r.ps).length ≠ 0 := by rw [lenP, hps]; simp
      obtain ⟨hf, hkk⟩ := hty.form
      have hlo := hrl.lost
      have hrlen : r.ps.length < 10000 := by have := h.fuel; rw [hpl]; omega
      have hcol := hlt.ok
      have hfull := h.ok
      have win : ∀ {K : Kn} {fs : List Nat}, Fit t K fs → (∀ x, part K 0 .empty r = some x → RowsTy (fs ++ cs) n (x :: parts K 0 .empty l)) →
          ACall Try.prog n_fugueref20_within [.sl (wTab.map eD), .sl (eRrs l), eRr r, .lit (.int .i64 K.form), .lit (.string K.nam), .lit (.int .i64 K.num)] (.sb (withinP n l r K)) := fun {K fs} hK hx =>
        within20_ok hp0 hf hkk hK.many2 hrlen (by omega) hcol hll (fun x hxx => ih _ _ _ (hx x hxx))
      have win3 : t = 0 → ∀ x, ACall Try.prog n_fugueref20_within [.sl (wTab.map eD), .sl (eRrs l), eRr r, .lit (.int .i64 3), .lit (.string .empty), .lit (.int .i64 x)] (.sb (withinP n l r (.int x))) := fun ht x => by subst ht; exact win (K := .int x) (fs := []) (.int x) (fun y hy => by rw [← parts_cons hy]; exact h.int rfl)
      have winN := win (fs := []) (.none t) (fun y hy => by rw [← parts_cons hy]; exact h.none)
      rw [fresh_cons hps]
      refine acall_of_wc ttok mixed Try.func32 rfl (by rfl) (Nat.le_of_ble_eq_true rfl) (by kernel_rfl) ?_
      refine ⟨fun h => by have := of_decide_eq_true h; exact absurd (by exact_mod_cast this) hlen0, fun _ => ?_⟩
      refine ⟨_, by omega, hp', rfl, ?_⟩
      by_cases h4 : p.f = 4
      · rw [if_pos h4]
        obtain ⟨fs, hfs, hk⟩ := ty_con hty h4
        have hw := win (.con t p.s fs hfs) (fun y hy => by rw [← parts_cons hy]; exact h.con hfs ⟨r, by simp, p, hp0, h4⟩)
        rw [← hk.len] at hw
        have e1 : Kn.num (.con p.s p.k.length) = ((p.eKids.length : Nat) : Int) := by rw [p.eKids_eq, lenP]; rfl
        rw [e1] at hw
        refine ⟨fun hbs => ?_, fun hbs => ?_⟩ <;> first | (exfalso; revert hbs; (simp [h4]); done) | skip
        refine .inl ⟨_, hw, ?_⟩
        exact rfl
      rw [if_neg h4]
      refine ⟨fun hbs => ?_, fun hbs => ?_⟩ <;> first | (exfalso; revert hbs; (simp [h4]); done) | skip
      by_cases h3 : p.f = 3
      · rw [if_pos h3]
        obtain ⟨ht, _, _⟩ := ty_int hty h3
        have hw := win3 ht p.n
        refine ⟨fun hbs => ?_, fun hbs => ?_⟩ <;> first | (exfalso; revert hbs; (simp [h3]); done) | skip
        refine .inl ⟨_, hw, ?_⟩
        exact rfl
      rw [if_neg h3]
      refine ⟨fun hbs => ?_, fun hbs => ?_⟩ <;> first | (exfalso; revert hbs; (simp [h3]); done) | skip
      have hC := Cons_ok l 0 hcol hll
      refine .inl ⟨_, hC, ?_⟩
      rcases colCons_ty (a := 0) (t := t) rfl hlt.tys with ⟨hno, hn4⟩ | ⟨hks, ht0, ht5, hh⟩
      · rw [hno]
        have hmem : ∀ x ∈ intsOf 0 l, t = 0 ∧ 0 ≤ x ∧ x < 1000 := ints_mem (a := 0) (t := t) rfl hlt.tys (fun x hx => by simp at hx)
        have hI := Ints_ok l 0 hcol hll
        have hil : (intsOf 0 l).length < 10000 := by have := ints_le 0 l []; unfold intsOf; simp at *; omega
        generalize intsOf 0 l = is at *
        refine ⟨Unit, fun _ => { vs := [(0, .v (.sl (wTab.map eD))), (1, .v (.sl (eRrs l))), (5, .box 0 (eRr r)), (10, .v (.sl [])), (11, .v (.sb false)), (12, .v (.sb false)), (13, sv 0)] }, fun _ => 0, (), ⟨⟨rfl, rfl, rfl, rfl, rfl, rfl, rfl, trivial⟩, trivial, rfl⟩, ?_⟩
        rintro ⟨⟩
        refine ⟨fun hbs => ?_, fun hbs => ?_⟩ <;> first | (exfalso; revert hbs; simp [Kn.form]; done) | skip
        refine ⟨fun hbs => ?_, fun hbs => ?_⟩ <;> first | (exfalso; revert hbs; simp [Kn.form]; done) | skip
        refine .inl ⟨_, winN, ?_⟩
        refine .inl ⟨_, hI, ?_⟩
        refine ⟨{i : Nat // i ≤ is.length}, fun i => { vs := [(0, .v (.sl (wTab.map eD))), (1, .v (.sl (eRrs l))), (5, .box 0 (eRr r)), (14, .v (.sl (eIs is))), (12, .v (.sb (withinP n l r .none || (is.take i.1).any fun x => withinP n l r (.int x)))), (15, sv (i.1 : Nat))] },
          fun i => is.length - i.1, ⟨0, Nat.zero_le _⟩, ⟨⟨rfl, rfl, rfl, rfl, ?_, rfl, trivial⟩, trivial, rfl⟩, ?_⟩
        · show SV.v (AV.sb (withinP n l r .none)) = _
          rw [List.take_zero, List.any_nil, Bool.or_false]
        rintro ⟨i, hi⟩
        have fin : (withinP n l r .none || (is.take i).any fun x => withinP n l r (.int x)) = true ∨ i = is.length → AV.sb (withinP n l r .none || (is.take i).any fun x => withinP n l r (.int x)) = AV.sb (withinP n l r .none || is.any fun x => withinP n l r (.int x)) := fun hq => by
          rcases hq with hq | hq
          · rw [hq]
            rw [Bool.or_eq_true] at hq
            rcases hq with hq | hq
            · rw [hq]; rfl
            · rw [any_take_true hq, Bool.or_true]
          · subst hq; rw [List.take_length]
        refine ⟨fun h1 => ?_, fun h1 => ?_⟩
        · have h1 : i < is.length := by have h1 := of_decide_eq_true h1; simp only [lenI] at h1; omega
          refine ⟨fun h2 => ?_, fun h2 => ?_⟩
          · have hw := win3 (hmem is[i] (List.getElem_mem h1)).1 is[i]
            refine ⟨_, by omega, getI h1, rfl, ?_⟩
            refine .inl ⟨_, hw, ?_⟩
            refine ⟨⟨i + 1, h1⟩, by simp; omega, ⟨rfl, rfl, rfl, rfl, ?_, svc (wrap_succ (k := i) (by omega)), trivial⟩, trivial, rfl⟩
            have h2 : (withinP n l r .none || (is.take i).any fun x => withinP n l r (.int x)) = false := not_t h2
            show SV.v (AV.sb (withinP n l r (.int is[i]))) = SV.v (AV.sb (withinP n l r .none || (is.take (i + 1)).any fun x => withinP n l r (.int x)))
            rw [any_take h1, ← Bool.or_assoc, h2, Bool.false_or]
          · have h2 : (withinP n l r .none || (is.take i).any fun x => withinP n l r (.int x)) = true := not_f h2
            exact fin (.inl h2)
        · have h1 : i = is.length := by have h1 := of_decide_eq_false h1; simp only [lenI] at h1; omega
          exact fin (.inr h1)
      · rw [hks]
        have h3 := consT_len t
        refine ⟨{i : Nat // i ≤ (consT t).length}, fun i => { vs := [(0, .v (.sl (wTab.map eD))), (1, .v (.sl (eRrs l))), (5, .box 0 (eRr r)), (10, .v (.sl (eCons (consT t)))), (11, .v (.sb true)), (12, .v (.sb (((consT t).take i.1).any fun q => withinP n l r (.con q.1 q.2.length)))), (13, sv (i.1 : Nat))] },
          fun i => (consT t).length - i.1, ⟨0, Nat.zero_le _⟩, ⟨⟨rfl, rfl, rfl, rfl, rfl, ?_, rfl, trivial⟩, trivial, rfl⟩, ?_⟩
        · exact rfl
        rintro ⟨i, hi⟩
        have fin : ((consT t).take i).any (fun q => withinP n l r (.con q.1 q.2.length)) = true ∨ i = (consT t).length → AV.sb (((consT t).take i).any fun q => withinP n l r (.con q.1 q.2.length)) = AV.sb ((consT t).any fun q => withinP n l r (.con q.1 q.2.length)) := fun hq => by
          rcases hq with hq | hq
          · rw [hq, any_take_true hq]
          · subst hq; rw [List.take_length]
        refine ⟨fun h1 => ?_, fun h1 => ?_⟩
        · have h1 : i < (consT t).length := by have h1 := of_decide_eq_true h1; simp only [lenC] at h1; omega
          refine ⟨fun h2 => ?_, fun h2 => ?_⟩
          · obtain ⟨fs, hfs, hfl⟩ := consT_at (List.getElem_mem h1)
            have hg : (eCons (consT t))[i]? = some (eCon (consT t)[i]) := getM h1
            have hw := win (.con t (consT t)[i].1 fs hfs) (fun y hy => by rw [← parts_cons hy]; exact h.con hfs (let ⟨q, a, b⟩ := hh; ⟨q, by simp [a], b⟩))
            have hat := any_take (f := fun q => withinP n l r (.con q.1 q.2.length)) h1
            generalize (consT t)[i] = q at hfs hfl hg hw hat
            have e1 : Kn.num (.con q.1 fs.length) = ((eTys q.2).length : Nat) := by rw [lenT, hfl]; rfl
            rw [e1] at hw
            refine ⟨_, by omega, hg, rfl, ?_⟩
            refine ⟨_, by omega, hg, rfl, ?_⟩
            refine .inl ⟨_, hw, ?_⟩
            refine ⟨⟨i + 1, h1⟩, by simp; omega, ⟨rfl, rfl, rfl, rfl, rfl, ?_, svc (wrap_succ (k := i) (by omega)), trivial⟩, trivial, rfl⟩
            have h2 : ((consT t).take i).any (fun q => withinP n l r (.con q.1 q.2.length)) = false := not_t h2
            show SV.v (AV.sb (withinP n l r (.con q.1 fs.length))) = SV.v (AV.sb (((consT t).take (i + 1)).any fun q => withinP n l r (.con q.1 q.2.length)))
            rw [hat, h2, Bool.false_or, hfl]
          · have h2 : ((consT t).take i).any (fun q => withinP n l r (.con q.1 q.2.length)) = true := not_f h2
            refine ⟨fun hbs => ?_, fun hbs => ?_⟩ <;> first | (exfalso; revert hbs; simp [Kn.form]; done) | skip
            exact fin (.inl h2)
        · have h1 : i = (consT t).length := by have h1 := of_decide_eq_false h1; simp only [lenC] at h1; omega
          refine ⟨fun hbs => ?_, fun hbs => ?_⟩ <;> first | (exfalso; revert hbs; simp [Kn.form]; done) | skip
          exact fin (.inr h1)
end Go.Proofs.Ytefdahofpjmnfaa
