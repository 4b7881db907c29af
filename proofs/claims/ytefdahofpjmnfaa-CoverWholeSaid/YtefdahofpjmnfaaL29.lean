/- The program's 'useful' and 'Useless'. No condition. -/
import Derived.Test.YtefdahofpjmnfaaL28
set_option linter.unusedSimpArgs false
set_option linter.unusedVariables false
namespace Go.Proofs.Ytefdahofpjmnfaa
open Go Fp
set_option maxRecDepth 10000
set_option maxHeartbeats 16000000

theorem useful_ok (F : Int) (b : Nat → Int) : ∀ (n : Nat) (l : List Rw) (r : Rw) (cs : List Nat), RowsTy cs n (r :: l) →
    ACall Try.prog n_cover_useful [cAV, .sl (eRws F b l), eRw F b r] (.sb (fresh n l r)) := by
  intro n
  induction n with
  | zero => intro l r cs h; have := h.fuel; omega
  | succ n ih =>
    intro l r cs h
    have hrt := h.tys r (by simp)
    have hcap := h.cap
    have hrl := h.row r (by simp)
    have hpl := hrt.len
    have hlt := h.tail
    have hll := hlt.len
    cases cs with
    | nil =>
      have hr0 : r.ps = [] := List.length_eq_zero_iff.1 (by simpa using hpl)
      have hl0 : (ePts r.ps).length = 0 := by rw [lenP, hr0]; rfl
      refine acall_of_wcx ttok mixed Try.func31 rfl (by rfl) (Nat.le_of_ble_eq_true rfl) (by kernel_rfl) ?_
      refine ⟨fun _ => ?_, fun h => by have := of_decide_eq_false h; rw [hl0] at this; exact absurd rfl this⟩
      rw [fresh, hr0]
      cases l with
      | nil => exact rfl
      | cons q l => exact (congrArg AV.sb (show decide ((((eRws F b (q :: l)).length : Nat) : Int) = 0) = false by simp [eRws]; omega))
    | cons t cs =>
      obtain ⟨p, hp0, hty⟩ := hrt.get (a := 0) (t := t) rfl
      have hps : ∃ ps, r.ps = p :: ps := by
        cases hq : r.ps with
        | nil => rw [hq] at hp0; simp at hp0
        | cons p' ps => rw [hq] at hp0; simp at hp0; subst hp0; exact ⟨ps, rfl⟩
      obtain ⟨ps, hps⟩ := hps
      have hp' : (ePts r.ps)[0]? = some (ePt p) := by simp [ePts, hp0]
      have hlen0 : (ePts r.ps).length ≠ 0 := by rw [lenP, hps]; simp
      have hcol := hlt.ok
      have hfull := h.ok
      have win : ∀ {K : Kn} {fs : List Nat}, Fit t K fs → (∀ x, part K 0 .empty r = some x → RowsTy (fs ++ cs) n (x :: parts K 0 .empty l)) →
          ACall Try.prog n_cover_useful_1 ([.lit (.int .i64 (K.many : Nat)), afn K] ++ wCaps F b l r) (.sb (withinP n l r K)) := fun {K fs} hK hx =>
        within_ok F b hK.many2 (hfull r (by simp)) hcol hll (fun x hxx => ih _ _ _ (hx x hxx))
      have win3 : t = 0 → ∀ x, ACall Try.prog n_cover_useful_1 ([.lit (.int .i64 0), afn (.int x)] ++ wCaps F b l r) (.sb (withinP n l r (.int x))) := fun ht x => by subst ht; exact win (K := .int x) (fs := []) (.int x) (fun y hy => by rw [← parts_cons hy]; exact h.int rfl)
      have winN : ACall Try.prog n_cover_useful_1 ([.lit (.int .i64 0), afn .none] ++ wCaps F b l r) (.sb (withinP n l r .none)) := win (fs := []) (.none t) (fun y hy => by rw [← parts_cons hy]; exact h.none)
      have hC := cons_ok F b l (t :: cs) 0 t rfl hlt.tys (by have := h.fuel; omega) hll
      rw [fresh_cons hps]
      refine acall_of_wcx ttok mixed Try.func31 rfl (by rfl) (Nat.le_of_ble_eq_true rfl) (by kernel_rfl) ?_
      refine ⟨fun h => by have := of_decide_eq_true h; exact absurd (by exact_mod_cast this) hlen0, fun _ => ?_⟩
      refine .inl ?_
      refine ⟨_, by omega, hp', rfl, ?_⟩
      by_cases h4 : p.f = 4
      · rw [if_pos h4]
        obtain ⟨fs, hfs, hk⟩ := ty_con hty h4
        have hw := win (.con t p.s fs hfs) (fun y hy => by rw [← parts_cons hy]; exact h.con hfs ⟨r, by simp, p, hp0, h4⟩)
        rw [← hk.len] at hw
        have e1 : ((Kn.many (.con p.s p.k.length) : Nat) : Int) = ((p.eKids.length : Nat) : Int) := by rw [p.eKids_eq, lenP]; rfl
        rw [e1] at hw
        have hO := ofCon_ok p.s p.k.length
        refine ⟨fun hbs => ?_, fun hbs => ?_⟩ <;> first | (exfalso; revert hbs; (simp [h4]); done) | skip
        refine .inl ⟨_, hO, ?_⟩
        refine .inl ⟨_, hw, ?_⟩
        exact ⟨by kernel_rfl, rfl⟩
      rw [if_neg h4]
      refine ⟨fun hbs => ?_, fun hbs => ?_⟩ <;> first | (exfalso; revert hbs; (simp [h4]); done) | skip
      by_cases h3 : p.f = 3
      · rw [if_pos h3]
        obtain ⟨ht, _, _⟩ := ty_int hty h3
        have hw := win3 ht p.n
        have hO := ofInt_ok p.n
        refine ⟨fun hbs => ?_, fun hbs => ?_⟩ <;> first | (exfalso; revert hbs; (simp [h3]); done) | skip
        refine .inl ⟨_, hO, ?_⟩
        refine .inl ⟨_, hw, ?_⟩
        exact ⟨by kernel_rfl, rfl⟩
      rw [if_neg h3]
      refine ⟨fun hbs => ?_, fun hbs => ?_⟩ <;> first | (exfalso; revert hbs; (simp [h3]); done) | skip
      refine .inl ⟨_, hC, ?_⟩
      rcases colCons_ty (a := 0) (t := t) rfl hlt.tys with ⟨hno, hn4⟩ | ⟨hks, ht0, ht5, hh⟩
      · rw [hno]
        have hmem : ∀ x ∈ intsOf 0 l, t = 0 ∧ 0 ≤ x ∧ x < 1000 := ints_mem (a := 0) (t := t) rfl hlt.tys (fun x hx => by simp at hx)
        have hI := ints_ok F b l 0 hcol hll
        have hil : (intsOf 0 l).length < 10000 := by have := ints_le 0 l []; unfold intsOf; simp at *; omega
        generalize intsOf 0 l = is at *
        have h58 : ∀ x ∈ is, ACall Try.prog n_cover_useful_3 (.lit (.int .i64 x) :: [.ptr [wFn F b l r]]) (.sb (withinP n l r (.int x))) := fun x hx => by
          have hw := win3 (hmem x hx).1 x
          refine acall_of_wcx ttok mixed Try.func58 rfl (by rfl) (Nat.le_of_ble_eq_true rfl) (by kernel_rfl) ?_
          refine .inl ⟨_, ofInt_ok x, ?_⟩
          refine .inl ⟨_, hw, ?_⟩
          exact ⟨by kernel_rfl, rfl⟩
        have hF := containsInt_ok is n_cover_useful_3 [.ptr [wFn F b l r]] (fun x => withinP n l r (.int x)) hil h58
        refine .inl ⟨_, winN, ?_⟩
        cases hw0 : withinP n l r .none with
        | true =>
          refine ⟨fun hbs => ?_, fun hbs => ?_⟩ <;> first | (exfalso; revert hbs; simp [Kn.form]; done) | skip
          rw [Bool.true_or]
          exact rfl
        | false =>
          refine ⟨fun hbs => ?_, fun hbs => ?_⟩ <;> first | (exfalso; revert hbs; simp [Kn.form]; done) | skip
          rw [Bool.false_or]
          refine .inl ⟨_, hI, ?_⟩
          refine .inl ?_
          refine .inl ⟨_, hF, ?_⟩
          exact rfl
      · rw [hks]
        have h3 := consT_len t
        obtain ⟨q0, qs, hqq⟩ := consT_pos ht0 ht5
        have hat : ∀ q ∈ consT t, ∃ fs, (q.1, fs) ∈ wCons t ∧ fs.length = q.2.length := fun q hq => consT_at hq
        rw [hqq] at h3 hat ⊢
        have h56 : ∀ q ∈ q0 :: qs, ACall Try.prog n_cover_useful_2 (eCon q :: [.ptr [wFn F b l r]]) (.sb (withinP n l r (.con q.1 q.2.length))) := fun q hq => by
          obtain ⟨fs, hfs, hfl⟩ := hat q hq
          have hw := win (.con t q.1 fs hfs) (fun y hy => by rw [← parts_cons hy]; exact h.con hfs (let ⟨q, a, b⟩ := hh; ⟨q, by simp [a], b⟩))
          rw [hfl] at hw
          have e1 : ((Kn.many (.con q.1 q.2.length) : Nat) : Int) = ((eTys q.2).length : Nat) := by rw [lenT]; rfl
          rw [e1] at hw
          refine acall_of_wcx ttok mixed Try.func56 rfl (by rfl) (Nat.le_of_ble_eq_true rfl) (by kernel_rfl) ?_
          refine .inl ⟨_, ofCon_ok q.1 q.2.length, ?_⟩
          refine .inl ⟨_, hw, ?_⟩
          exact ⟨by kernel_rfl, rfl⟩
        have hF := containsCon_ok (q0 :: qs) n_cover_useful_2 [.ptr [wFn F b l r]] (fun q => withinP n l r (.con q.1 q.2.length)) (by omega) h56
        refine .inl ?_
        refine .inl ⟨_, hF, ?_⟩
        exact rfl

theorem Useless_ok {t : Nat} {l : List Pt} (h : PatsOk t l) : ACall Try.prog n_cover_Useless [cAV, .sl (ePts l)] (.sl (eIs (uslOf l))) := by
  have hl := h.2.1
  have h1 := rows_ok l (by omega)
  have hlen := rowsFrom_len l 0
  have hat := fun (k : Nat) (hk : k < (rowsFrom 0 l).length) => useful_ok 0 (fun _ => 0) 300 ((rowsFrom 0 l).take k) (rowsFrom 0 l)[k] [t] (h.at hk)
  unfold uslOf
  have hpl := lenP l
  refine acall_of_wcx ttok mixed Try.func16 rfl (by rfl) (Nat.le_of_ble_eq_true rfl) (by kernel_rfl) ?_
  refine .inl ⟨_, h1, ?_⟩
  rw [← hlen] at hl ⊢
  generalize rowsFrom 0 l = rows at *
  have hrl := lenRw 0 (fun _ => 0) rows
  refine ⟨{i : Nat // i ≤ rows.length}, fun i => { vs := [(0, .v cAV), (5, .v (.sl (eIs (usl rows i.1)))), (6, .v (.sl (eRws 0 (fun _ => 0) rows))), (11, .v (.sl (eRws 0 (fun _ => 0) rows))), (12, sv (rows.length : Nat)), (13, sv (i.1 : Nat))], ow := [(5, 0, 2)] },
    fun i => rows.length - i.1, ⟨0, Nat.zero_le _⟩, ⟨⟨rfl, rfl, rfl, rfl, svc (by rw [hrl]), rfl, trivial⟩, ⟨trivial, trivial⟩, rfl⟩, ?_⟩
  rintro ⟨i, hi⟩
  refine ⟨fun h1 => ?_, fun h1 => ?_⟩
  · have h2 : i < rows.length := by have h1 := of_decide_eq_true h1; simp only at h1; omega
    have hN := hat i h2
    have e1 : List.drop (Int.toNat 0) (List.take (Int.toNat (i : Int)) (eRws 0 (fun _ => 0) rows)) = eRws 0 (fun _ => 0) (rows.take i) := by simp [eRws]
    have hu := usl_le rows i
    have hst : usl rows (i + 1) = usl rows i ++ if fresh 300 (rows.take i) rows[i] = true then [] else [((i : Nat) : Int)] := by
      rw [usl, List.getElem?_eq_getElem h2]
    refine ⟨_, by omega, getRw h2, rfl, ?_⟩
    refine ⟨by decide, Int.natCast_nonneg _, by rw [hrl]; simp only; omega, rfl, .inl rfl, ?_⟩
    rw [← e1] at hN
    refine .inl ⟨_, hN, ?_⟩
    cases hf : fresh 300 (rows.take i) rows[i] with
    | false =>
      rw [hf] at hst
      refine ⟨by kernel_rfl, ?_⟩
      refine ⟨fun hbs => ?_, fun hbs => ?_⟩ <;> first | (exfalso; revert hbs; simp [Kn.form]; done) | skip
      refine ⟨by rw [lenI]; simp; omega, uniI _, uniI [(i : Int)], ?_⟩
      refine ⟨⟨i + 1, h2⟩, by simp; omega, ⟨rfl, ?_, rfl, rfl, rfl, svc (wrap_succ (k := i) (by omega)), trivial⟩, ⟨rfl, trivial⟩, rfl⟩
      show SV.v (AV.sl (eIs (usl rows i) ++ [.lit (.int .i64 (i : Nat))])) = SV.v (AV.sl (eIs (usl rows (i + 1))))
      rw [hst]; simp [eIs]
    | true =>
      rw [hf] at hst
      refine ⟨by kernel_rfl, ?_⟩
      refine ⟨fun hbs => ?_, fun hbs => ?_⟩ <;> first | (exfalso; revert hbs; simp [Kn.form]; done) | skip
      refine ⟨⟨i + 1, h2⟩, by simp; omega, ⟨rfl, ?_, rfl, rfl, rfl, svc (wrap_succ (k := i) (by omega)), trivial⟩, ⟨rfl, trivial⟩, rfl⟩
      show SV.v (AV.sl (eIs (usl rows i))) = SV.v (AV.sl (eIs (usl rows (i + 1))))
      rw [hst]; simp
  · have h1 : i = rows.length := by have h1 := of_decide_eq_false h1; simp only at h1; omega
    subst h1
    exact rfl
end Go.Proofs.Ytefdahofpjmnfaa
