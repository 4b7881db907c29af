/- Compiled cases come to the body of the first pattern that takes the value, with its names as it has them, or fail, if none does: the statement's function is true. No condition but that numbers are integers of 64 bits. -/
import Derived.Test.YtefdahofpjmnfaaDoorP
import Derived.Test.YtefdahofpjmnfaaDoorN
set_option linter.unusedSimpArgs false
set_option linter.unusedVariables false
namespace Go.Proofs.YtefdahofpjmnfaaDoor
open Go Fp
set_option maxRecDepth 10000
set_option maxHeartbeats 16000000
set_option linter.unusedVariables false
set_option linter.unusedSimpArgs false

theorem find_rows (v : Vl) : ∀ (l : List Pt) (n : Nat), match (rowsFrom n l).find? (fun r => takesL r.ps [v]) with
    | none => ∀ p ∈ l, takes p v = false
    | some r => ∃ (k : Nat) (h : k < l.length), r = ⟨[l[k]], [], n + k⟩ ∧ takes l[k] v = true ∧ ∀ j (hj : j < l.length), j < k → takes l[j] v = false
  | [], n => by simp [rowsFrom]
  | p :: l, n => by
    have ih := find_rows v l (n + 1)
    rw [rowsFrom, List.find?_cons]
    have e : takesL [p] [v] = takes p v := by simp [takesL]
    simp only [e]
    cases ht : takes p v with
    | true => exact ⟨0, by simp, rfl, ht, fun j _ h => by omega⟩
    | false =>
      simp only
      split at ih
      · rename_i hn
        intro q hq
        rcases List.mem_cons.1 hq with rfl | hq
        · exact ht
        · exact ih q hq
      · rename_i r hr
        obtain ⟨k, hk, h1, h2, h3⟩ := ih
        refine ⟨k + 1, by simp; omega, ?_, h2, fun j hj hjk => ?_⟩
        · rw [h1]; simp only [List.getElem_cons_succ]; congr 1; omega
        · cases j with
          | zero => exact ht
          | succ j => exact h3 j (by simpa using hj) (by omega)
theorem boundL_one (p : Pt) (v : Vl) : boundL [p] [v] = bound p v := by rw [boundL_cons, boundL_nil, List.append_nil]
theorem namesL_one (p : Pt) : namesL [p] = names p := by rw [namesL, namesL, List.append_nil]
theorem bound_ty : ∀ (n : Nat) (p : Pt) (v : Vl) (t : Nat), p.sz ≤ n → TyP t p → TyV t v → takes p v = true → ∀ y ∈ bound p v, ∃ u, TyV u y.2 := by
  intro n
  induction n with
  | zero => intro p v t h; have := kids_sz p; omega
  | succ n ih =>
    intro p v t h hp hv ht y hy
    rw [bound_eq] at hy
    split at hy
    · simp at hy; subst hy; exact ⟨t, hv⟩
    · cases hp with
      | any _ _ _ hk _ => rw [hk, boundL_nil] at hy; simp at hy
      | int _ _ hk => rw [hk, boundL_nil] at hy; simp at hy
      | con _ _ fs h4 hs hl hk =>
        have hh := takes_eq p v
        rw [ht, h4] at hh
        simp at hh
        obtain ⟨⟨h1, h2⟩, h3⟩ := hh
        obtain ⟨gs, _, g2, g3⟩ := tyV_con hv (wCons_fs hs).2.2.1
        rw [h2] at g2
        have := wCons_uniq hs g2
        subst this
        have hL : ∀ (ps : List Pt) (vs : List Vl) (cs : List Nat), (∀ q ∈ ps, q.sz ≤ n) → TyPs cs ps → TyVs cs vs → takesL ps vs = true → ∀ y ∈ boundL ps vs, ∃ u, TyV u y.2 := fun ps => by
          induction ps with
          | nil => intro vs cs _ _ _ _ y hy; rw [boundL_nil] at hy; simp at hy
          | cons q ps ih2 =>
            intro vs cs hz hp hv ht y hy
            cases vs with
            | nil => simp [takesL] at ht
            | cons w vs =>
              cases cs with
              | nil => exact hp.elim
              | cons c cs =>
                rw [takesL, Bool.and_eq_true] at ht
                rw [boundL_cons] at hy
                rcases List.mem_append.1 hy with hy | hy
                · exact ih q w c (hz q (by simp)) hp.1 hv.1 ht.1 y hy
                · exact ih2 vs cs (fun q hq => hz q (by simp [hq])) hp.2 hv.2 ht.2 y hy
        exact hL p.k v.k fs (fun q hq => by have := sz_kid hq; omega) (TyPs.of hl hk) g3 h3 y hy

/-- What is bound is what the names have in the end. -/
theorem bound_look {v0 : Vl} {env : List Nv} {bs : List Bd} {p : Pt} (hN : NmP p) (h2 : ∀ q ∈ env, Tr v0 q.1 q.2) (h3 : ∀ q ∈ bs, q.2.2 ∈ env.map (·.1)) (h4 : (bs.map (·.1)).Perm (names p)) (y : Nv) (hy : ∃ q ∈ bs, q.1 = y.1 ∧ Tr v0 q.2.2 y.2) : lookE (letE env bs) y.1 = y.2 := by
  obtain ⟨q, hq, e1, e2⟩ := hy
  rw [← e1, letE_in bs env (h4.nodup_iff.2 hN.1) (fun q hq hm => ?_) q hq]
  · exact look_true h2 e2 (h3 q hq)
  · obtain ⟨z, hz, e⟩ := List.mem_map.1 (h3 q hq)
    obtain ⟨r, hr⟩ := (h2 z hz).bytes
    obtain ⟨r', hr'⟩ := hN.2 _ (h4.mem_iff.1 hm)
    rw [← e, hr] at hr'
    injection hr' with hb
    exact absurd hb (by decide)

theorem coverRuns_ok {l k : List Int} (hl : l.length < 9223372036854775808) (hr : ∀ x ∈ l, InR x) (_ : k.length < 9223372036854775808) (hk : ∀ x ∈ k, InR x) : ACall Tryd.prog n_fuguelaw20_CoverRuns [.sl (eIs l), .sl (eIs k)] (.sb true) := by
  obtain ⟨ps, t, hP, ht, hlen, hps, hNm⟩ := pats_okN hr hl
  obtain ⟨v, nx, hV, hty, hnx⟩ := val_ok hk 4 (by decide) 0 t (by decide) ht
  have hok : PatsOk t ps := ⟨ht, by omega, hps⟩
  have hsz : ∀ p ∈ ps, p.sz < 10000 := fun p hp => by have := (hps p hp).2; omega
  have hF := First_ok ps v (by omega) hsz
  have hfs := (first_place ps fun p => takes p v).choose_spec.1
  generalize (first_place ps fun p => takes p v).choose = i at hF hfs
  have hlp : (ePts ps).length = ps.length := lenP ps
  have hB := bodies_ok ps.length (by omega)
  rw [← hlp] at hB
  have hT := type20_ok t ht
  have hT0 := type20_ok 0 (by decide)
  have hC := Compile_ok (wTy 0) (wTy t) ⟨#[115]⟩ (by decide) hok bId (upto (ePts ps).length) (by rw [upto_len, hlp]) (upto_bId _)
  obtain ⟨hR, hRl⟩ := Runs_ok (wTy 0) bId 300 (rowsFrom 0 ps) [t] [⟨#[115]⟩] [(⟨#[115]⟩, v)] hok.all rfl (by simp)
  have hM := runs_made bId v 300 (rowsFrom 0 ps) [t] [⟨#[115]⟩] [v] [(⟨#[115]⟩, v)] hok.all ⟨hty, trivial⟩ rfl (fun i s x hs hx => by
    have hi : i = 0 := by have := (List.getElem?_eq_some_iff.1 hs).1; simpa using this
    subst hi
    simp at hs hx; subst hs; subst hx
    exact ⟨Tr.root v, by simp⟩) (fun q hq => by simp at hq; subst hq; exact Tr.root v) (fun r hr q hq => by rw [(rowsFrom_body ps 0 r hr).1] at hq; simp at hq)
  generalize made bId 300 (rowsFrom 0 ps) [⟨#[115]⟩] = C at hC hR hRl hM
  generalize runs C [(⟨#[115]⟩, v)] = res at hR hRl hM
  obtain ⟨m, env⟩ := res
  simp only [List.length_singleton] at hRl
  have hfr := find_rows v ps 0
  unfold ComesTo at hM
  -- what it comes to
  have hmi : m = i ∧ ((i = -1) ∨ ∃ (j : Nat) (h : j < ps.length), i = j ∧ takes ps[j] v = true ∧ ∀ y ∈ bound ps[j] v, lookE env y.1 = y.2) := by
    split at hM
    · rename_i hn
      rw [hn] at hfr
      rcases hfs with ⟨j, rfl, hj, h1, _⟩ | ⟨rfl, _⟩
      · rw [hfr _ (List.getElem_mem hj)] at h1; cases h1
      · exact ⟨hM, .inl rfl⟩
    · rename_i r hn
      rw [hn] at hfr
      obtain ⟨j, hj, rfl, h1, h2⟩ := hfr
      obtain ⟨env', bs, e1, e2, e3, e4, e5, e6⟩ := hM
      have hij : i = j := by
        rcases hfs with ⟨j', rfl, hj', h3, h4⟩ | ⟨rfl, h3⟩
        · rcases Nat.lt_trichotomy j j' with h | h | h
          · rw [h4 j hj h] at h1; cases h1
          · rw [h]
          · rw [h2 j' hj' h] at h3; cases h3
        · rw [h3 _ (List.getElem_mem hj)] at h1; cases h1
      injection e1 with e1 e1'
      simp only [Nat.zero_add] at e1
      refine ⟨by rw [e1, hij]; rfl, .inr ⟨j, hj, hij, h1, fun y hy => ?_⟩⟩
      rw [e1']
      simp only [List.map_nil, List.nil_append, namesL_one] at e4
      refine bound_look (hNm _ (List.getElem_mem hj)) e2 e3 e4 y (e6 y ?_)
      rw [boundL_one]; exact hy
  obtain ⟨rfl, hmi⟩ := hmi
  refine acall_of_wsem ttok mixed Tryd.func4 rfl (by rfl) (Nat.le_of_ble_eq_true rfl) (by kernel_rfl) ?_
  refine Wsem.seq ttok mixed ?_
  refine Wsem.seq ttok mixed ?_
  refine .inl ⟨_, hP, ?_⟩
  refine Wsem.seq ttok mixed ?_
  refine .inl ⟨_, hV, ?_⟩
  refine Wsem.seq ttok mixed ?_
  refine .inl ⟨_, program_ok, ?_⟩
  refine .inl ⟨_, new_ok, ?_⟩
  refine .inl ⟨_, hT, ?_⟩
  refine .inl ⟨_, hB, ?_⟩
  refine .inl ⟨_, hT0, ?_⟩
  refine .inl ⟨_, hC, ?_⟩
  refine Wsem.seq ttok mixed ?_
  refine .inl ⟨_, hR, ?_⟩
  refine Wsem.seq ttok mixed ?_
  refine .inl ⟨_, hF, ?_⟩
  refine Wsem.seq ttok mixed ?_
  rcases hmi with rfl | ⟨j, hj, rfl, htk, hbd⟩
  · refine ⟨fun hbs => ?_, fun hbs => ?_⟩ <;> first | (exfalso; revert hbs; (simp); done) | skip
    refine ⟨fun hbs => ?_, fun hbs => ?_⟩ <;> first | (exfalso; revert hbs; (simp [hlp]; omega); done) | skip
    refine Wsem.of ttok mixed ?_
    refine ⟨fun hbs => ?_, fun hbs => ?_⟩ <;> first | (exfalso; revert hbs; (simp); done) | skip
    refine .inl ⟨_, lives_ok, ?_⟩
    exact rfl
  · refine ⟨fun hbs => ?_, fun hbs => ?_⟩ <;> first | (exfalso; revert hbs; (simp); done) | skip
    refine ⟨fun hbs => ?_, fun hbs => ?_⟩ <;> first | (exfalso; revert hbs; (simp [hlp]; omega); done) | skip
    refine Wsem.seq ttok mixed ?_
    refine ⟨fun hbs => ?_, fun hbs => ?_⟩ <;> first | (exfalso; revert hbs; (intro h; have h := of_decide_eq_true h; omega); done) | skip
    refine Wsem.of ttok mixed ?_
    have hbl := bound_len _ ps[j] v (Nat.le_refl _)
    have hpz := (hps _ (List.getElem_mem hj)).2
    have hBd := Bound_ok _ ps[j] v (Nat.le_refl _) (by omega)
    have hbt := bound_ty _ ps[j] v t (Nat.le_refl _) (hps _ (List.getElem_mem hj)).1 hty htk
    refine ⟨_, by omega, getP hj, rfl, ?_⟩
    refine .inl ⟨_, hBd, ?_⟩
    refine ⟨by kernel_rfl, ?_⟩
    generalize bound ps[j] v = own at hbd hbl hbt
    refine ⟨{q : Nat // q ≤ own.length}, fun q => { vs := [(11, .v (.sl (eOfs env))), (13, .v (.sl (eOfs own))), (14, sv (q.1 : Nat))] },
      fun q => own.length - q.1, ⟨0, Nat.zero_le _⟩, ⟨⟨rfl, rfl, rfl, trivial⟩, trivial, rfl⟩, ?_⟩
    rintro ⟨q, hq⟩
    refine ⟨fun h => ?_, fun h => ?_⟩
    · have h : q < own.length := by have h := of_decide_eq_true h; rw [lenOf] at h; simp only at h; omega
      have hg := getOf h
      have hm := List.getElem_mem h
      have hlk := Look_ok env own[q].1 (by omega)
      rw [hbd _ hm] at hlk
      obtain ⟨u, hu⟩ := hbt _ hm
      have hsame := same_ok hu
      refine ⟨_, by omega, hg, rfl, ?_⟩
      refine .inl ⟨_, hlk, ?_⟩
      refine ⟨_, by omega, hg, rfl, ?_⟩
      refine .inl ⟨_, hsame, ?_⟩
      refine ⟨by kernel_rfl, ?_⟩
      refine ⟨fun hbs => ?_, fun hbs => ?_⟩ <;> first | (exfalso; revert hbs; (simp); done) | skip
      exact ⟨⟨q + 1, h⟩, by simp; omega, ⟨rfl, rfl, svc (wrap_succ (k := q) (by omega)), trivial⟩, trivial, rfl⟩
    · refine .inl ⟨_, lives_ok, ?_⟩
      exact rfl
end Go.Proofs.YtefdahofpjmnfaaDoor
