/- The reference's 'Missing' and 'Useless'; whether patterns, or integers, are the same. No condition. -/
import Derived.Test.YtefdahofpjmnfaaL15
set_option linter.unusedSimpArgs false
set_option linter.unusedVariables false
namespace Go.Proofs.Ytefdahofpjmnfaa
open Go Fp
set_option maxRecDepth 10000
set_option maxHeartbeats 16000000

theorem szL_take : ∀ (l : List Pt) (k : Nat), szL (l.take k) + szL (l.drop k) = szL l
  | [], k => by simp [szL]
  | p :: l, 0 => by simp [szL]
  | p :: l, k + 1 => by have := szL_take l k; simp only [List.take_succ_cons, List.drop_succ_cons, szL]; omega
theorem miss_sz : ∀ (n : Nat) (l : List Rw) (c : Nat) (m : List Pt), miss n l c = some m → szL m ≤ n
  | 0, _, _, _, h => by simp [miss] at h
  | n + 1, l, 0, m, h => by
    cases l with
    | nil => simp [miss] at h; subst h; simp [szL]
    | cons r l => simp [miss] at h
  | n + 1, l, c + 1, m, h => by
    unfold miss at h
    split at h
    · obtain ⟨q, _, hq⟩ := List.exists_of_findSome?_eq_some h
      obtain ⟨m', hm, rfl⟩ := Option.map_eq_some_iff.1 hq
      have := miss_sz n _ _ _ hm
      have h2 := szL_take m' q.2.length
      simp only [szL, conP, Pt.sz]; omega
    · split at h
      · rename_i m' hm
        injection h with h; subst h
        have := miss_sz n _ _ _ hm
        have h1 : (ownOf (intsOf 0 l)).sz = 1 := by unfold ownOf; split <;> rfl
        simp only [szL, h1]; omega
      · obtain ⟨q, _, hq⟩ := List.exists_of_findSome?_eq_some h
        obtain ⟨m', hm, rfl⟩ := Option.map_eq_some_iff.1 hq
        have := miss_sz n _ _ _ hm
        simp only [szL, intP, Pt.sz]; omega

theorem wt_le : ∀ (l : List Rw), (∀ r ∈ l, nodesL r.ps ≤ 15) → wt l ≤ l.length * 15
  | [], _ => by simp [wt]
  | r :: l, h => by
    have h1 := h r (by simp)
    have := wt_le l (fun r hr => h r (by simp [hr]))
    simp only [wt, List.length_cons, Nat.add_mul, Nat.one_mul]; omega
theorem rowsTy_of {t : Nat} {l : List Rw} (ht : t < 5) (hl : l.length ≤ 6) (h : ∀ r ∈ l, RowTy [t] 300 r ∧ nodesL r.ps ≤ 15) : RowsTy [t] 300 l := by
  have := wt_le l (fun r hr => (h r hr).2)
  exact ⟨fun r hr => (h r hr).1, fun u hu => by simp at hu; omega, by omega, by simp; omega, by omega⟩
/-- Patterns of a type, not too many. -/
def PatsOk (t : Nat) (l : List Pt) : Prop := t < 5 ∧ l.length ≤ 6 ∧ ∀ p ∈ l, TyP t p ∧ p.sz ≤ 15
theorem PatsOk.rows {t : Nat} {l : List Pt} (h : PatsOk t l) : ∀ r ∈ rowsFrom 0 l, RowTy [t] 300 r ∧ nodesL r.ps ≤ 15 := fun r hr => by
  obtain ⟨k, hk⟩ := List.getElem?_of_mem hr
  rw [rowsFrom_get] at hk
  obtain ⟨p, hp, rfl⟩ := Option.map_eq_some_iff.1 hk
  have := h.2.2 p (List.mem_of_getElem? hp)
  have h2 := nodes_sz p
  exact ⟨⟨⟨this.1, trivial⟩, by simp⟩, by simp only [nodesL]; omega⟩
theorem PatsOk.all {t : Nat} {l : List Pt} (h : PatsOk t l) : RowsTy [t] 300 (rowsFrom 0 l) := rowsTy_of h.1 (by rw [rowsFrom_len]; exact h.2.1) h.rows
theorem PatsOk.at {t : Nat} {l : List Pt} (h : PatsOk t l) {k : Nat} (hk : k < (rowsFrom 0 l).length) : RowsTy [t] 300 ((rowsFrom 0 l)[k] :: (rowsFrom 0 l).take k) := by
  have h2 := h.2.1
  rw [← rowsFrom_len l 0] at h2
  refine rowsTy_of h.1 (by rw [List.length_cons, List.length_take]; omega) fun r hr => ?_
  rcases List.mem_cons.1 hr with rfl | hr
  · exact h.rows _ (List.getElem_mem hk)
  · exact h.rows _ (List.mem_of_mem_take hr)

def zeroP : Pt := .mk 0 0 .empty .no [] []
def misOr : Option (List Pt) → AV
  | some (m :: _) => .tup [ePt m, .sb true]
  | _ => .tup [ePt zeroP, .sb false]
/-- What is missing of patterns. -/
def missOf (l : List Pt) : Option (List Pt) := miss 300 (rowsFrom 0 l) 1

theorem Missing20_ok {t : Nat} {l : List Pt} (h : PatsOk t l) : ACall Try.prog n_fugueref20_Missing [.sl (wTab.map eD), .sl (ePts l)] (misOr (missOf l)) := by
  have hl := h.2.1
  have h1 := rows20_ok l (by omega)
  have h2 : ACall Try.prog n_fugueref20_missing [.sl (wTab.map eD), .sl (eRrs (rowsFrom 0 l)), .lit (.int .i64 1)] (missOr (miss 300 (rowsFrom 0 l) 1)) := missing20_ok 300 (rowsFrom 0 l) [t] h.all
  unfold missOf
  have hml0 := miss_len 300 (rowsFrom 0 l) 1
  generalize miss 300 (rowsFrom 0 l) 1 = mm at h2 hml0
  refine acall_of_wc ttok mixed Try.func11 rfl (by rfl) (Nat.le_of_ble_eq_true rfl) (by kernel_rfl) ?_
  refine .inl ⟨_, h1, .inl ⟨_, h2, ?_⟩⟩
  match mm, hml0 with
  | none, _ =>
    refine ⟨fun hbs => ?_, fun hbs => ?_⟩ <;> first | (exfalso; revert hbs; simp [Kn.form]; done) | skip
    exact rfl
  | some [p], _ =>
    refine ⟨fun hbs => ?_, fun hbs => ?_⟩ <;> first | (exfalso; revert hbs; simp [Kn.form]; done) | skip
    refine ⟨ePt p, by omega, rfl, rfl, ?_⟩
    exact rfl
  | some [], hml0 => exact absurd (hml0 [] rfl) (by simp)
  | some (p :: q :: m), hml0 => exact absurd (hml0 _ rfl) (by simp)

/-- The numbers of those that are never come to, of the first ones. -/
def usl (rows : List Rw) : Nat → List Int
  | 0 => []
  | k + 1 => usl rows k ++ (match rows[k]? with
    | some r => if fresh 300 (rows.take k) r = true then [] else [((k : Nat) : Int)]
    | none => [])
theorem usl_le (rows : List Rw) : ∀ k, (usl rows k).length ≤ k
  | 0 => Nat.le_refl _
  | k + 1 => by
    have := usl_le rows k
    rw [usl, List.length_append]
    split
    · split <;> simp <;> omega
    · simp; omega
def uslOf (l : List Pt) : List Int := usl (rowsFrom 0 l) l.length

theorem Useless20_ok {t : Nat} {l : List Pt} (h : PatsOk t l) : ACall Try.prog n_fugueref20_Useless [.sl (wTab.map eD), .sl (ePts l)] (.sl (eIs (uslOf l))) := by
  have hl := h.2.1
  have h1 := rows20_ok l (by omega)
  have hlen := rowsFrom_len l 0
  have hat := fun (k : Nat) (hk : k < (rowsFrom 0 l).length) => New20_ok 300 ((rowsFrom 0 l).take k) (rowsFrom 0 l)[k] [t] (h.at hk)
  unfold uslOf
  have hpl := lenP l
  refine acall_of_wc ttok mixed Try.func17 rfl (by rfl) (Nat.le_of_ble_eq_true rfl) (by kernel_rfl) ?_
  refine .inl ⟨_, h1, ?_⟩
  generalize rowsFrom 0 l = rows at *
  refine ⟨{i : Nat // i ≤ l.length}, fun i => { vs := [(0, .v (.sl (wTab.map eD))), (1, .v (.sl (ePts l))), (5, .v (.sl (eIs (usl rows i.1)))), (6, .v (.sl (eRrs rows))), (7, sv (i.1 : Nat))], ow := [(5, 0, 2)] },
    fun i => l.length - i.1, ⟨0, Nat.zero_le _⟩, ⟨⟨rfl, rfl, rfl, rfl, rfl, trivial⟩, ⟨trivial, trivial⟩, rfl⟩, ?_⟩
  rintro ⟨i, hi⟩
  refine ⟨fun h1 => ?_, fun h1 => ?_⟩
  · have h1 : i < l.length := by have h1 := of_decide_eq_true h1; simp only [hpl] at h1; omega
    have h2 : i < rows.length := by omega
    have hN := hat i h2
    have e1 : List.drop (Int.toNat 0) (List.take (Int.toNat (i : Int)) (eRrs rows)) = eRrs (rows.take i) := by simp [eRrs]
    have hrl : (eRrs rows).length = rows.length := by simp [eRrs]
    have hu := usl_le rows i
    have hst : usl rows (i + 1) = usl rows i ++ if fresh 300 (rows.take i) rows[i] = true then [] else [((i : Nat) : Int)] := by
      rw [usl, List.getElem?_eq_getElem h2]
    refine ⟨by decide, Int.natCast_nonneg _, by rw [hrl]; simp only; omega, .inl rfl, ?_⟩
    refine ⟨_, by omega, getRr h2, rfl, ?_⟩
    rw [← e1] at hN
    refine .inl ⟨_, hN, ?_⟩
    cases hf : fresh 300 (rows.take i) rows[i] with
    | false =>
      rw [hf] at hst
      refine ⟨fun hbs => ?_, fun hbs => ?_⟩ <;> first | (exfalso; revert hbs; simp [Kn.form]; done) | skip
      refine ⟨by rw [lenI]; simp; omega, uniI _, uniI [(i : Int)], ?_⟩
      refine ⟨⟨i + 1, h1⟩, by simp; omega, ⟨rfl, rfl, ?_, rfl, svc (wrap_succ (k := i) (by omega)), trivial⟩, ⟨rfl, trivial⟩, rfl⟩
      show SV.v (AV.sl (eIs (usl rows i) ++ [.lit (.int .i64 (i : Nat))])) = SV.v (AV.sl (eIs (usl rows (i + 1))))
      rw [hst]; simp [eIs]
    | true =>
      rw [hf] at hst
      refine ⟨fun hbs => ?_, fun hbs => ?_⟩ <;> first | (exfalso; revert hbs; simp [Kn.form]; done) | skip
      refine ⟨⟨i + 1, h1⟩, by simp; omega, ⟨rfl, rfl, ?_, rfl, svc (wrap_succ (k := i) (by omega)), trivial⟩, ⟨rfl, trivial⟩, rfl⟩
      show SV.v (AV.sl (eIs (usl rows i))) = SV.v (AV.sl (eIs (usl rows (i + 1))))
      rw [hst]; simp
  · have h1 : i = l.length := by have h1 := of_decide_eq_false h1; simp only [hpl] at h1; omega
    subst h1
    exact rfl

theorem SameInts_ok (l : List Int) (hl : l.length < 10000) : ACall Try.prog n_fugueref20_SameInts [.sl (eIs l), .sl (eIs l)] (.sb true) := by
  refine acall_of_wc ttok mixed Try.func15 rfl (by rfl) (Nat.le_of_ble_eq_true rfl) (by kernel_rfl) ?_
  refine ⟨fun hbs => ?_, fun hbs => ?_⟩ <;> first | (exfalso; revert hbs; (simp); done) | skip
  refine ⟨{i : Nat // i ≤ l.length}, fun i => { vs := [(0, .v (.sl (eIs l))), (1, .v (.sl (eIs l))), (5, sv (i.1 : Nat))] },
    fun i => l.length - i.1, ⟨0, Nat.zero_le _⟩, ⟨⟨rfl, rfl, rfl, trivial⟩, trivial, rfl⟩, ?_⟩
  rintro ⟨i, hi⟩
  refine ⟨fun h1 => ?_, fun h1 => ?_⟩
  · have h1 : i < l.length := by have h1 := of_decide_eq_true h1; simp only [lenI] at h1; omega
    refine ⟨_, by omega, getI h1, rfl, ?_⟩
    refine ⟨_, by omega, getI h1, rfl, ?_⟩
    refine ⟨fun hbs => ?_, fun hbs => ?_⟩ <;> first | (exfalso; revert hbs; (simp); done) | skip
    exact ⟨⟨i + 1, h1⟩, by simp; omega, ⟨rfl, rfl, svc (wrap_succ (k := i) (by omega)), trivial⟩, trivial, rfl⟩
  · exact rfl

theorem SamePat_ok : ∀ (n : Nat) (p : Pt), p.sz ≤ n → n < 10000 → ACall Try.prog n_fugueref14_SamePat [ePt p, ePt p] (.sb true) := by
  intro n
  induction n with
  | zero => intro p h; cases p; simp [Pt.sz] at h
  | succ n ih =>
    intro p h hn
    have hkl : p.k.length ≤ p.sz := by
      have : ∀ l : List Pt, l.length ≤ szL l := fun l => by
        induction l with
        | nil => simp [szL]
        | cons x l ih => have : 0 < x.sz := by cases x; simp only [Pt.sz]; omega
                         simp only [szL, List.length_cons]; omega
      have h1 := this p.k
      cases p; simp only [Pt.k, Pt.sz] at *; omega
    have hel : p.eKids.length = p.k.length := by rw [p.eKids_eq, lenP]
    refine acall_of_wc ttok mixed Try.func13 rfl (by rfl) (Nat.le_of_ble_eq_true rfl) (by kernel_rfl) ?_
    refine ⟨fun hbs => ?_, fun hbs => ?_⟩ <;> first | (exfalso; revert hbs; (simp); done) | skip
    refine ⟨fun hbs => ?_, fun hbs => ?_⟩ <;> first | (exfalso; revert hbs; (simp); done) | skip
    refine ⟨fun hbs => ?_, fun hbs => ?_⟩ <;> first | (exfalso; revert hbs; (simp); done) | skip
    refine ⟨fun hbs => ?_, fun hbs => ?_⟩ <;> first | (exfalso; revert hbs; (simp); done) | skip
    refine ⟨{i : Nat // i ≤ p.k.length}, fun i => { vs := [(2, .box 0 (ePt p)), (3, .box 0 (ePt p)), (5, sv (i.1 : Nat))] },
      fun i => p.k.length - i.1, ⟨0, Nat.zero_le _⟩, ⟨⟨rfl, rfl, rfl, trivial⟩, trivial, rfl⟩, ?_⟩
    rintro ⟨i, hi⟩
    refine ⟨fun h1 => ?_, fun h1 => ?_⟩
    · have h1 : i < p.k.length := by have h1 := of_decide_eq_true h1; simp only [hel] at h1; omega
      have hg : p.eKids[i]? = some (ePt p.k[i]) := by rw [p.eKids_eq]; exact getP h1
      have hs := sz_kid (List.getElem_mem h1)
      have hc := ih p.k[i] (by omega) (by omega)
      refine ⟨_, by omega, hg, rfl, ?_⟩
      refine ⟨_, by omega, hg, rfl, ?_⟩
      refine .inl ⟨_, hc, ?_⟩
      refine ⟨fun hbs => ?_, fun hbs => ?_⟩ <;> first | (exfalso; revert hbs; simp [Kn.form]; done) | skip
      exact ⟨⟨i + 1, h1⟩, by simp; omega, ⟨rfl, rfl, svc (wrap_succ (k := i) (by omega)), trivial⟩, trivial, rfl⟩
    · exact rfl
end Go.Proofs.Ytefdahofpjmnfaa
