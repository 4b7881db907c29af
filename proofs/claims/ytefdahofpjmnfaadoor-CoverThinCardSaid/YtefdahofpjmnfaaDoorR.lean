/- Without the useless ones, patterns come to the same bodies, compiled, too: the statement's function is true. No condition but that numbers are integers of 64 bits. -/
import Derived.Test.YtefdahofpjmnfaaDoorQ
set_option linter.unusedSimpArgs false
set_option linter.unusedVariables false
namespace Go.Proofs.YtefdahofpjmnfaaDoor
open Go Fp
set_option maxRecDepth 10000
set_option maxHeartbeats 16000000
set_option linter.unusedVariables false
set_option linter.unusedSimpArgs false

/-- The numbers that are kept. -/
def keptN (us : List Int) : Nat → List Nat
  | 0 => []
  | k + 1 => keptN us k ++ if (k : Int) ∈ us then [] else [k]
def pk (ps : List Pt) (i : Nat) : Pt := (ps[i]?).getD wildP
theorem pk_get {ps : List Pt} {i : Nat} (h : i < ps.length) : pk ps i = ps[i] := by unfold pk; rw [List.getElem?_eq_getElem h]; rfl
theorem kept_mem (us : List Int) : ∀ {k i : Nat}, i ∈ keptN us k ↔ i < k ∧ (i : Int) ∉ us
  | 0, i => by simp [keptN]
  | k + 1, i => by
    rw [keptN, List.mem_append, kept_mem us]
    by_cases h : (k : Int) ∈ us
    · rw [if_pos h]
      constructor
      · rintro (⟨a, b⟩ | h)
        · exact ⟨by omega, b⟩
        · simp at h
      · rintro ⟨a, b⟩
        rcases Nat.lt_or_ge i k with h' | h'
        · exact .inl ⟨h', b⟩
        · have : i = k := by omega
          subst this; exact absurd h b
    · rw [if_neg h]
      constructor
      · rintro (⟨a, b⟩ | h')
        · exact ⟨by omega, b⟩
        · simp at h'; subst h'; exact ⟨by omega, h⟩
      · rintro ⟨a, b⟩
        rcases Nat.lt_or_ge i k with h' | h'
        · exact .inl ⟨h', b⟩
        · exact .inr (by simp; omega)
theorem kept_inc (us : List Int) : ∀ k, (keptN us k).Pairwise (· < ·)
  | 0 => by simp [keptN]
  | k + 1 => by
    rw [keptN, List.pairwise_append]
    refine ⟨kept_inc us k, by split <;> simp, fun x hx y hy => ?_⟩
    have := (kept_mem us).1 hx
    split at hy
    · simp at hy
    · simp at hy; omega
theorem kept_len (us : List Int) : ∀ k, (keptN us k).length ≤ k
  | 0 => by simp [keptN]
  | k + 1 => by have := kept_len us k; rw [keptN, List.length_append]; split <;> simp <;> omega
theorem usl_not {rows : List Rw} {k : Nat} {r : Rw} (hr : rows[k]? = some r) : ∀ {n : Nat}, k < n → (k : Int) ∉ usl rows n → fresh 300 (rows.take k) r = true
  | 0, h, _ => by omega
  | n + 1, h, hn => by
    rw [usl, List.mem_append, not_or] at hn
    rcases Nat.lt_or_ge k n with h' | h'
    · exact usl_not hr h' hn.1
    · have : k = n := by omega
      subst this
      have h2 := hn.2
      rw [hr] at h2
      simp only at h2
      split at h2
      · assumption
      · simp at h2
theorem usl_nil {rows : List Rw} : ∀ {n : Nat}, (∀ k r, k < n → rows[k]? = some r → fresh 300 (rows.take k) r = true) → usl rows n = []
  | 0, _ => rfl
  | n + 1, h => by
    rw [usl, usl_nil (fun k r hk => h k r (by omega))]
    split
    · rename_i r hr
      rw [if_pos (h n r (by omega) hr)]; rfl
    · rfl
theorem inc_get {l : List Nat} (h : l.Pairwise (· < ·)) {i j : Nat} (hi : i < l.length) (hj : j < l.length) (hij : i ≤ j) : l[i] ≤ l[j] := by
  rcases Nat.lt_or_ge i j with h' | h'
  · exact Nat.le_of_lt (List.pairwise_iff_getElem.1 h i j hi hj h')
  · have : i = j := by omega
    subst this; exact Nat.le_refl _

section
variable {t : Nat} {ps : List Pt} (hok : PatsOk t ps)
abbrev ksOf (ps : List Pt) : List Nat := keptN (uslOf ps) ps.length
abbrev thinOf (ps : List Pt) : List Pt := (ksOf ps).map (pk ps)
theorem ks_get {ps : List Pt} {j : Nat} (hj : j < (ksOf ps).length) : (ksOf ps)[j] < ps.length ∧ (((ksOf ps)[j] : Nat) : Int) ∉ uslOf ps := (kept_mem _).1 (List.getElem_mem hj)
theorem thin_get {ps : List Pt} {j : Nat} (hj : j < (thinOf ps).length) : ∃ h : (ksOf ps)[j]'(by simpa using hj) < ps.length, (thinOf ps)[j] = ps[(ksOf ps)[j]'(by simpa using hj)] := by
  have hj' : j < (ksOf ps).length := by simpa using hj
  have h := (ks_get hj').1
  exact ⟨h, by rw [List.getElem_map, pk_get h]⟩
include hok in
theorem thin_ok : PatsOk t (thinOf ps) := by
  refine ⟨hok.1, ?_, fun p hp => ?_⟩
  · have := kept_len (uslOf ps) ps.length
    have := hok.2.1
    have e : (thinOf ps).length = (keptN (uslOf ps) ps.length).length := List.length_map ..
    omega
  · obtain ⟨i, hi, rfl⟩ := List.mem_map.1 hp
    have h := ((kept_mem _).1 hi).1
    rw [pk_get h]
    exact hok.2.2 _ (List.getElem_mem h)
include hok in
theorem thin_useful : uslOf (thinOf ps) = [] := by
  have htk := thin_ok hok
  refine usl_nil (fun k r hk hr => ?_)
  have hkl : k < (rowsFrom 0 (thinOf ps)).length := by rw [rowsFrom_len]; exact hk
  obtain ⟨hil, hge⟩ := thin_get hk
  generalize hi : (ksOf ps)[k]'(by simpa using hk) = i at hil hge
  have hk' : k < (ksOf ps).length := by simpa using hk
  have hnu := (ks_get hk').2
  rw [hi] at hnu
  have hilr : i < (rowsFrom 0 ps).length := by rw [rowsFrom_len]; exact hil
  have hfy := usl_not (rows := rowsFrom 0 ps) (r := (rowsFrom 0 ps)[i]) (List.getElem?_eq_getElem hilr) (n := ps.length) hil hnu
  obtain ⟨vs, v1, v2, v3⟩ := fresh_yes 300 _ _ [t] (hok.at hilr) hfy
  have hgi := rowsFrom_get ps 0 i
  rw [List.getElem?_eq_getElem hilr, List.getElem?_eq_getElem hil] at hgi
  simp only [Option.map_some] at hgi
  injection hgi with hgi
  have hgk := rowsFrom_get (thinOf ps) 0 k
  rw [hr, List.getElem?_eq_getElem hk] at hgk
  simp only [Option.map_some] at hgk
  injection hgk with hgk
  cases hf : fresh 300 ((rowsFrom 0 (thinOf ps)).take k) r with
  | true => rfl
  | false =>
    exfalso
    have hrr : r = (rowsFrom 0 (thinOf ps))[k] := by rw [List.getElem?_eq_getElem hkl] at hr; injection hr with hr; exact hr.symm
    rw [hrr] at hf
    have hno := fresh_no 300 _ _ [t] (htk.at hkl) hf vs v1 (by rw [← hrr, hgk, hge]; rw [hgi] at v2; exact v2)
    cases vs with
    | nil => exact v1.elim
    | cons w vs =>
      cases vs with
      | cons _ _ => exact v1.2.elim
      | nil =>
        rw [rowsFrom_take, tk_rows, List.any_eq_true] at hno
        obtain ⟨p, hp, hpt⟩ := hno
        obtain ⟨j, hj⟩ := List.getElem?_of_mem hp
        have hjl := (List.getElem?_eq_some_iff.1 hj).1
        simp only [List.length_take] at hjl
        have hjp : j < (thinOf ps).length := by omega
        rw [List.getElem?_take_of_lt (by omega), List.getElem?_eq_getElem hjp] at hj
        injection hj with hj
        obtain ⟨hjl2, hgj⟩ := thin_get hjp
        have hjk : j < (ksOf ps).length := by simpa using hjp
        have hlt : (ksOf ps)[j] < i := by rw [← hi]; exact List.pairwise_iff_getElem.1 (kept_inc _ _) j k hjk hk' (by omega)
        rw [rowsFrom_take, tk_rows, List.any_eq_false] at v3
        refine v3 ps[(ksOf ps)[j]] ?_ (by rw [← hgj, hj]; exact hpt)
        rw [List.mem_take_iff_getElem]
        exact ⟨(ksOf ps)[j], by omega, rfl⟩
include hok in
/-- The first one that takes the value is kept, and first. -/
theorem thin_first {v : Vl} (hv : TyV t v) {b : Nat → Int} (hb : ∀ (j : Nat) (h : j < (ksOf ps).length), b j = (((ksOf ps)[j] : Nat) : Int)) {res : Int × List Nv} (h : ComesTo b v (rowsFrom 0 (thinOf ps)) [v] res) : res.1 = (first_place ps fun p => takes p v).choose := by
  have hnu := first_not_useless hok hv
  have hfs := (first_place ps fun p => takes p v).choose_spec.1
  generalize (first_place ps fun p => takes p v).choose = i at hfs hnu ⊢
  have hfr := find_rows v (thinOf ps) 0
  unfold ComesTo at h
  have place : ∀ k : Nat, k < ps.length → i = k → ∃ (j : Nat) (hj : j < (thinOf ps).length), (ksOf ps)[j]'(by simpa using hj) = k := fun k hk he => by
    have hm : k ∈ ksOf ps := (kept_mem _).2 ⟨hk, fun hu => hnu k hu he.symm⟩
    obtain ⟨j, hj⟩ := List.getElem?_of_mem hm
    have hjl := (List.getElem?_eq_some_iff.1 hj).1
    exact ⟨j, by simpa using hjl, (List.getElem?_eq_some_iff.1 hj).2⟩
  split at h
  · rename_i hn
    rw [hn] at hfr
    rcases hfs with ⟨k, rfl, hk, h1, _⟩ | ⟨rfl, _⟩
    · obtain ⟨j, hj, he⟩ := place k hk rfl
      obtain ⟨hl, hg⟩ := thin_get hj
      have := hfr _ (List.getElem_mem hj)
      rw [hg] at this
      simp only [he] at this
      rw [this] at h1; cases h1
    · exact h
  · rename_i r hn
    rw [hn] at hfr
    obtain ⟨j, hj, rfl, h1, h2⟩ := hfr
    obtain ⟨env', bs, e1, _⟩ := h
    have hjk : j < (ksOf ps).length := by simpa using hj
    obtain ⟨hl, hg⟩ := thin_get hj
    rw [hg] at h1
    rw [e1]
    simp only [Nat.zero_add]
    rw [hb j hjk]
    rcases hfs with ⟨k, rfl, hk, h3, h4⟩ | ⟨rfl, h3⟩
    · obtain ⟨j', hj', he⟩ := place k hk rfl
      have hj'k : j' < (ksOf ps).length := by simpa using hj'
      obtain ⟨hl', hg'⟩ := thin_get hj'
      have a1 : k ≤ (ksOf ps)[j] := by
        rcases Nat.lt_or_ge (ksOf ps)[j] k with h | h
        · rw [h4 _ hl h] at h1; cases h1
        · exact h
      have a2 : j ≤ j' := by
        rcases Nat.lt_or_ge j' j with h | h
        · have := h2 j' hj' h
          rw [hg'] at this
          simp only [he] at this
          rw [this] at h3; cases h3
        · exact h
      have a3 := inc_get (kept_inc (uslOf ps) ps.length) hjk hj'k a2
      exact congrArg Int.ofNat (Nat.le_antisymm (Nat.le_trans a3 (Nat.le_of_eq he)) a1)
    · rw [h3 _ (List.getElem_mem hl)] at h1; cases h1
end

theorem coverThin_ok {l k : List Int} (hl : l.length < 9223372036854775808) (hr : ∀ x ∈ l, InR x) (_ : k.length < 9223372036854775808) (hk : ∀ x ∈ k, InR x) : ACall Tryd.prog n_fuguelaw20_CoverThin [.sl (eIs l), .sl (eIs k)] (.sb true) := by
  obtain ⟨ps, t, hP, ht, hlen, hps⟩ := pats_ok hr hl
  obtain ⟨v, nx, hV, hty, hnx⟩ := val_ok hk 4 (by decide) 0 t (by decide) ht
  have hok : PatsOk t ps := ⟨ht, by omega, hps⟩
  have hsz : ∀ p ∈ ps, p.sz < 10000 := fun p hp => by have := (hps p hp).2; omega
  have hF := First_ok ps v (by omega) hsz
  have hU := Useless_ok hok
  have hlu := uslOf_le ps
  have hok2 := thin_ok hok
  have hU2 := Useless_ok hok2
  rw [thin_useful hok] at hU2
  have hlp : (ePts ps).length = ps.length := lenP ps
  have hB := bodies_ok ps.length (by omega)
  rw [← hlp] at hB
  have hT := type20_ok t ht
  have hT0 := type20_ok 0 (by decide)
  obtain ⟨own, hown⟩ : ∃ own : List Int, own = (ksOf ps).map fun (i : Nat) => (i : Int) := ⟨_, rfl⟩
  have hbo : ∀ (j : Nat) (h : j < (ksOf ps).length), (own[j]?).getD 0 = (((ksOf ps)[j] : Nat) : Int) := fun j h => by rw [hown]; simp [h]
  have hC := Compile_ok (wTy 0) (wTy t) ⟨#[115]⟩ (by decide) hok2 (fun j => (own[j]?).getD 0) own (by rw [hown, List.length_map, List.length_map]) (fun k x h => by simp only [h]; rfl)
  obtain ⟨hR, hRl⟩ := Runs_ok (wTy 0) (fun j => (own[j]?).getD 0) 300 (rowsFrom 0 (thinOf ps)) [t] [⟨#[115]⟩] [(⟨#[115]⟩, v)] hok2.all rfl (by simp)
  have hM := runs_made (fun j => (own[j]?).getD 0) v 300 (rowsFrom 0 (thinOf ps)) [t] [⟨#[115]⟩] [v] [(⟨#[115]⟩, v)] hok2.all ⟨hty, trivial⟩ rfl (fun i s x hs hx => by
    have hi : i = 0 := by have := (List.getElem?_eq_some_iff.1 hs).1; simpa using this
    subst hi
    simp at hs hx; subst hs; subst hx
    exact ⟨Tr.root v, by simp⟩) (fun q hq => by simp at hq; subst hq; exact Tr.root v) (fun r hr q hq => by rw [(rowsFrom_body _ 0 r hr).1] at hq; simp at hq)
  have hres := thin_first hok hty hbo hM
  generalize made (fun j => (own[j]?).getD 0) 300 (rowsFrom 0 (thinOf ps)) [⟨#[115]⟩] = C at hC hR hRl hM hres
  generalize runs C [(⟨#[115]⟩, v)] = res at hR hRl hM hres
  obtain ⟨m, env⟩ := res
  simp only at hres
  rw [← hres] at hF
  have tail : Wsem Tryd.prog (sndC (sndC (sndC (sndC (sndC (sndC (sndC (sndC (sndC (bodyC Tryd.f5)))))))))) (mkC { vs := [(5, .v (.sl (ePts ps))), (6, sv (t : Nat)), (7, .box 0 (eVl v)), (9, .v cAV), (12, .v (.sl (ePts (thinOf ps)))), (13, .v (.sl (eCis own)))] })
      (fun c => RetP tt Tryd.f5.results.toList (.sb true) (den c)) (fun _ _ => False) (fun c => RetP tt Tryd.f5.results.toList (.sb true) (den c)) := by
    refine Wsem.seq ttok mixed ?_
    refine .inl ⟨_, hT, ?_⟩
    refine .inl ⟨_, hT0, ?_⟩
    refine .inl ⟨_, hC, ?_⟩
    refine Wsem.seq ttok mixed ?_
    refine .inl ⟨_, hR, ?_⟩
    refine Wsem.of ttok mixed ?_
    refine .inl ⟨_, hF, ?_⟩
    refine ⟨fun hbs => ?_, fun hbs => ?_⟩ <;> first | (exfalso; revert hbs; (simp); done) | skip
    refine .inl ⟨_, hU2, ?_⟩
    refine ⟨fun hbs => ?_, fun hbs => ?_⟩ <;> first | (exfalso; revert hbs; (simp [eIs]); done) | skip
    refine .inl ⟨_, lives_ok, ?_⟩
    exact rfl
  refine acall_of_wsem ttok mixed Tryd.func5 rfl (by rfl) (Nat.le_of_ble_eq_true rfl) (by kernel_rfl) ?_
  refine Wsem.seq ttok mixed ?_
  refine Wsem.seq ttok mixed ?_
  refine .inl ⟨_, hP, ?_⟩
  refine Wsem.seq ttok mixed ?_
  refine .inl ⟨_, hV, ?_⟩
  refine Wsem.seq ttok mixed ?_
  refine .inl ⟨_, program_ok, ?_⟩
  refine .inl ⟨_, new_ok, ?_⟩
  refine Wsem.seq ttok mixed ?_
  refine .inl ⟨_, hU, ?_⟩
  refine Wsem.seq ttok mixed ?_
  refine .inl ⟨_, hB, ?_⟩
  refine Wsem.seq ttok mixed ?_
  refine Wsem.seq ttok mixed ?_
  refine Wsem.seq ttok mixed ?_
  refine ⟨{k : Nat // k ≤ ps.length}, fun k => { vs := [(5, .v (.sl (ePts ps))), (6, sv (t : Nat)), (7, .box 0 (eVl v)), (9, .v cAV), (10, .v (.sl (eIs (uslOf ps)))), (11, .v (.sl (eCis (upto ps.length)))), (12, .v (.sl (ePts ((keptN (uslOf ps) k.1).map (pk ps))))), (13, .v (.sl (eCis ((keptN (uslOf ps) k.1).map fun (i : Nat) => (i : Int))))), (14, sv (k.1 : Nat))], ow := [(12, 0, 11), (13, 0, 11)] },
    fun k => ps.length - k.1, ⟨0, Nat.zero_le _⟩, ⟨⟨rfl, rfl, rfl, rfl, rfl, by rw [← hlp]; rfl, rfl, rfl, rfl, trivial⟩, ⟨trivial, trivial, trivial⟩, rfl⟩, ?_⟩
  rintro ⟨k, hk⟩
  refine ⟨fun h => ?_, fun h => ?_⟩
  · have h : k < ps.length := by have h := of_decide_eq_true h; rw [hlp] at h; simp only at h; omega
    have hkl := kept_len (uslOf ps) k
    have hst : keptN (uslOf ps) (k + 1) = keptN (uslOf ps) k ++ if (k : Int) ∈ uslOf ps then [] else [k] := rfl
    generalize uslOf ps = us at *
    generalize keptN us k = ks at *
    have idx := svc (wrap_succ (k := k) (by omega))
    refine ⟨{j : Nat // j ≤ us.length}, fun j => { vs := [(5, .v (.sl (ePts ps))), (6, sv (t : Nat)), (7, .box 0 (eVl v)), (9, .v cAV), (10, .v (.sl (eIs us))), (11, .v (.sl (eCis (upto ps.length)))), (12, .v (.sl (ePts (ks.map (pk ps))))), (13, .v (.sl (eCis (ks.map fun (i : Nat) => (i : Int))))), (14, sv (k : Nat)), (15, .v (.sb (decide ((k : Int) ∈ us.take j.1)))), (16, sv (j.1 : Nat))], ow := [(12, 0, 11), (13, 0, 11)] },
      fun j => us.length - j.1, ⟨0, Nat.zero_le _⟩, ⟨⟨rfl, rfl, rfl, rfl, rfl, rfl, rfl, rfl, rfl, rfl, rfl, trivial⟩, ⟨rfl, rfl, trivial⟩, rfl⟩, ?_⟩
    rintro ⟨j, hj⟩
    refine ⟨fun h1 => ?_, fun h1 => ?_⟩
    · have h1 : j < us.length := by have h1 := of_decide_eq_true h1; rw [lenI] at h1; simp only at h1; omega
      refine ⟨fun h2 => ?_, fun h2 => ?_⟩
      · have h2 := of_decide_eq_false h2
        refine ⟨_, by omega, getI h1, rfl, ?_⟩
        refine ⟨⟨j + 1, h1⟩, by simp; omega, ⟨rfl, rfl, rfl, rfl, rfl, rfl, rfl, rfl, rfl, ?_, svc (wrap_succ (k := j) (by omega)), trivial⟩, ⟨rfl, rfl, trivial⟩, rfl⟩
        refine congrArg (fun b => SV.v (AV.sb b)) ?_
        simp only at h2
        by_cases he : us[j] = (k : Int)
        · simp only [memT h1, he, or_true]
        · have he' : (k : Int) ≠ us[j] := fun h => he h.symm
          simp only [memT h1, he, h2, he', or_false]
      · have h2 := of_decide_eq_true h2
        refine ⟨⟨j + 1, h1⟩, by simp; omega, ⟨rfl, rfl, rfl, rfl, rfl, rfl, rfl, rfl, rfl, ?_, svc (wrap_succ (k := j) (by omega)), trivial⟩, ⟨rfl, rfl, trivial⟩, rfl⟩
        refine congrArg (fun b => SV.v (AV.sb b)) ?_
        simp only at h2
        simp [memT h1, h2]
    · have h1 : j = us.length := by have h1 := of_decide_eq_false h1; rw [lenI] at h1; simp only at h1; omega
      subst h1
      simp only [List.take_length]
      by_cases hm : (k : Int) ∈ us
      · refine ⟨fun hbs => ?_, fun hbs => ?_⟩ <;> first | (exfalso; revert hbs; (simp [hm]); done) | skip
        rw [if_pos hm, List.append_nil] at hst
        exact ⟨⟨k + 1, h⟩, by simp; omega, ⟨rfl, rfl, rfl, rfl, rfl, rfl, by rw [hst]; rfl, by rw [hst]; rfl, idx, trivial⟩, ⟨rfl, rfl, trivial⟩, rfl⟩
      · refine ⟨fun hbs => ?_, fun hbs => ?_⟩ <;> first | (exfalso; revert hbs; (simp [hm]); done) | skip
        rw [if_neg hm] at hst
        have hbg : (eCis (upto ps.length))[k]? = some (eCi k) := by simp [eCis, upto_get h]
        refine ⟨_, by omega, getP h, rfl, ?_⟩
        refine ⟨by rw [lenP]; simp; omega, uniP _, uniP [ps[k]], ?_⟩
        refine ⟨_, by omega, hbg, rfl, ?_⟩
        refine ⟨by rw [lenCi]; simp; omega, uniCi _, uniCi [(k : Int)], ?_⟩
        refine ⟨⟨k + 1, h⟩, by simp; omega, ⟨rfl, rfl, rfl, rfl, rfl, rfl, ?_, ?_, idx, trivial⟩, ⟨rfl, rfl, trivial⟩, rfl⟩
        · show SV.v (AV.sl (ePts (ks.map (pk ps)) ++ ePts [ps[k]])) = SV.v (AV.sl (ePts ((keptN us (k + 1)).map (pk ps))))
          rw [hst, ← pk_get h]; simp [ePts]
        · show SV.v (AV.sl (eCis (ks.map fun (i : Nat) => (i : Int)) ++ eCis [(k : Int)])) = SV.v (AV.sl (eCis ((keptN us (k + 1)).map fun (i : Nat) => (i : Int))))
          rw [hst]; simp [eCis]
  · have h : k = ps.length := by have h := of_decide_eq_false h; rw [hlp] at h; simp only at h; omega
    subst h
    refine Wsem.cut _ ?_ tail
    exact ⟨⟨rfl, rfl, rfl, rfl, rfl, by rw [hown]; exact rfl, trivial⟩, trivial, rfl⟩
end Go.Proofs.YtefdahofpjmnfaaDoor
