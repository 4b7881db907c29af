/- A value that the missing pattern takes is taken by none; if nothing is missing, each is taken; what is useless is never the first: the statement's function is true. No condition but that numbers are integers of 64 bits. -/
import Derived.Test.YtefdahofpjmnfaaM2
set_option linter.unusedSimpArgs false
set_option linter.unusedVariables false
namespace Go.Proofs.Ytefdahofpjmnfaa
open Go Fp
set_option maxRecDepth 10000
set_option maxHeartbeats 16000000

theorem usl_mem {rows : List Rw} {x : Int} : ∀ {n : Nat}, x ∈ usl rows n → ∃ (k : Nat) (r : Rw), x = k ∧ rows[k]? = some r ∧ fresh 300 (rows.take k) r = false
  | 0, h => by simp [usl] at h
  | n + 1, h => by
    rw [usl, List.mem_append] at h
    rcases h with h | h
    · exact usl_mem h
    · split at h
      · rename_i r hr
        split at h
        · simp at h
        · rename_i hf
          simp at h
          exact ⟨n, r, h, hr, by simpa using hf⟩
      · simp at h

theorem first_not_useless {t : Nat} {ps : List Pt} {v : Vl} (h : PatsOk t ps) (hv : TyV t v) : ∀ x ∈ uslOf ps, x ≠ (first_place ps fun p => takes p v).choose := fun x hx e => by
  have hi := (first_place ps fun p => takes p v).choose_spec.1
  rw [← e] at hi
  obtain ⟨k, r, rfl, hr, hf⟩ := usl_mem hx
  rcases hi with ⟨k', hk', h3, h4, h5⟩ | ⟨hk', _⟩
  · have : k = k' := by omega
    subst this
    have hkl : k < (rowsFrom 0 ps).length := by rw [rowsFrom_len]; exact h3
    have hat := h.at hkl
    have hrr : r = (rowsFrom 0 ps)[k] := by rw [List.getElem?_eq_getElem hkl] at hr; injection hr with hr; exact hr.symm
    rw [hrr] at hf
    have hg := rowsFrom_get ps 0 k
    rw [List.getElem?_eq_getElem hkl, List.getElem?_eq_getElem h3] at hg
    simp only [Option.map_some] at hg
    injection hg with hg
    have htk := fresh_no 300 _ _ [t] hat hf [v] ⟨hv, trivial⟩ (by rw [hg]; simp [takesL, h4])
    rw [rowsFrom_take, tk_rows, List.any_eq_true] at htk
    obtain ⟨p, hp, hpt⟩ := htk
    obtain ⟨j, hj⟩ := List.getElem?_of_mem hp
    have hjl := (List.getElem?_eq_some_iff.1 hj).1
    simp only [List.length_take] at hjl
    have hjp : j < ps.length := by omega
    have := h5 j hjp (by omega)
    rw [List.getElem?_take_of_lt (by omega), List.getElem?_eq_getElem hjp] at hj
    injection hj with hj
    rw [hj, hpt] at this; cases this
  · omega

theorem coverWhole_ok {l k : List Int} (hl : l.length < 9223372036854775808) (hr : ∀ x ∈ l, InR x) (_ : k.length < 9223372036854775808) (hk : ∀ x ∈ k, InR x) : ACall Try.prog n_fuguelaw20_CoverWhole [.sl (eIs l), .sl (eIs k)] (.sb true) := by
  obtain ⟨ps, t, hP, ht, hlen, hps⟩ := pats_ok hr hl
  obtain ⟨v, nx, hV, hty, hnx⟩ := val_ok hk 4 (by decide) 0 t (by decide) ht
  have hok : PatsOk t ps := ⟨ht, by omega, hps⟩
  have hsz : ∀ p ∈ ps, p.sz < 10000 := fun p hp => by have := (hps p hp).2; omega
  have hF := First_ok ps v (by omega) hsz
  have h1 := Missing_ok hok
  have h3 := Useless_ok hok
  have hnu := first_not_useless hok hty
  have hfd := (first_place ps fun p => takes p v).choose_spec.2
  obtain ⟨p1, b1, he1, hs1, hb1⟩ := misOr_cases (missOf ps) (missOf_facts ps)
  rw [he1] at h1
  have hfill := Fill_ok (.mk 3 0 .empty []) 300 p1 hs1 (by decide)
  have hF2 := First_ok ps (fillV (.mk 3 0 .empty []) p1) (by omega) hsz
  have hi2 : b1 = true → (first_place ps fun p => takes p (fillV (.mk 3 0 .empty []) p1)).choose = -1 := fun hb => by
    have hm : missOf ps = some [p1] := by
      rcases hb1 with ⟨_, h⟩ | ⟨h, _⟩
      · rw [hb] at h; cases h
      · exact h
    have hg := miss_good 300 (rowsFrom 0 ps) 1 [p1] hm p1 (by simp)
    have hsd := miss_sound 300 (rowsFrom 0 ps) [t] [p1] hok.all hm [fillV (.mk 3 0 .empty []) p1] (by rw [takesL, good_takes hg, takesL]; rfl)
    rw [tk_rows] at hsd
    have hsp := (first_place ps fun p => takes p (fillV (.mk 3 0 .empty []) p1)).choose_spec
    have hsp2 := of_decide_eq_false (hsp.2.trans hsd)
    rcases hsp.1 with ⟨q, hq, _⟩ | ⟨h, _⟩
    · omega
    · exact h
  have hi1 : b1 = false → 0 ≤ (first_place ps fun p => takes p v).choose := fun hb => by
    have hm : missOf ps = none := by
      rcases hb1 with ⟨h, _⟩ | ⟨_, h⟩
      · exact h
      · rw [hb] at h; cases h
    have hw := whole_of hok hm (vs := [v]) ⟨hty, trivial⟩
    rw [tk_rows] at hw
    exact of_decide_eq_true (hfd.trans hw)
  have hlu := uslOf_le ps
  generalize (first_place ps fun p => takes p v).choose = i1 at hF hnu hi1
  generalize (first_place ps fun p => takes p (fillV (.mk 3 0 .empty []) p1)).choose = i2 at hF2 hi2
  generalize uslOf ps = us at h3 hnu hlu
  have tail : Wsem Try.prog (sndC (sndC (sndC (sndC (sndC (sndC (sndC (bodyC Try.f6)))))))) (mkC { vs := [(5, .v (.sl (ePts ps))), (7, .v cAV), (10, sv i1)] })
      (fun c => RetP tt Try.f6.results.toList (.sb true) (den c)) (fun _ _ => False) (fun c => RetP tt Try.f6.results.toList (.sb true) (den c)) := by
    refine Wsem.of ttok mixed ?_
    refine .inl ⟨_, h3, ?_⟩
    refine ⟨{i : Nat // i ≤ us.length}, fun i => { vs := [(10, sv i1), (13, .v (.sl (eIs us))), (14, sv (i.1 : Nat))] }, fun i => us.length - i.1, ⟨0, Nat.zero_le _⟩, ⟨⟨rfl, rfl, rfl, trivial⟩, trivial, rfl⟩, ?_⟩
    rintro ⟨i, hi⟩
    refine ⟨fun h => ?_, fun h => ?_⟩
    · have h : i < us.length := by have h := of_decide_eq_true h; rw [lenI] at h; simp only at h; omega
      have hne := hnu us[i] (List.getElem_mem h)
      refine ⟨_, by omega, getI h, rfl, ?_⟩
      refine ⟨fun hbs => ?_, fun hbs => ?_⟩ <;> first | (exfalso; revert hbs; (simp [hne]); done) | skip
      exact ⟨⟨i + 1, h⟩, by simp; omega, ⟨rfl, rfl, svc (wrap_succ (k := i) (by omega)), trivial⟩, trivial, rfl⟩
    · refine .inl ⟨_, lives_ok, ?_⟩
      exact rfl
  refine acall_of_wsem ttok mixed Try.func6 rfl (by rfl) (Nat.le_of_ble_eq_true rfl) (by kernel_rfl) ?_
  refine Wsem.seq ttok mixed ?_
  refine Wsem.seq ttok mixed ?_
  refine .inl ⟨_, hP, ?_⟩
  refine Wsem.seq ttok mixed ?_
  refine .inl ⟨_, program_ok, .inl ⟨_, new_ok, ?_⟩⟩
  refine Wsem.seq ttok mixed ?_
  refine .inl ⟨_, hV, ?_⟩
  refine Wsem.seq ttok mixed ?_
  refine .inl ⟨_, hF, ?_⟩
  refine Wsem.seq ttok mixed ?_
  refine .inl ⟨_, h1, ?_⟩
  refine Wsem.seq ttok mixed ?_
  cases b1 with
  | false =>
    have h0 := hi1 rfl
    refine ⟨fun hbs => ?_, fun hbs => ?_⟩ <;> first | (exfalso; revert hbs; decide) | skip
    refine ⟨fun hbs => ?_, fun hbs => ?_⟩ <;> first | (exfalso; revert hbs; decide) | skip
    refine ⟨fun hbs => ?_, fun hbs => ?_⟩ <;> first | (exfalso; revert hbs; (simp; omega); done) | skip
    refine Wsem.cut _ ?_ tail
    exact ⟨⟨rfl, rfl, rfl, trivial⟩, trivial, rfl⟩
  | true =>
    have h0 := hi2 rfl
    subst h0
    refine ⟨fun hbs => ?_, fun hbs => ?_⟩ <;> first | (exfalso; revert hbs; decide) | skip
    refine .inl ⟨_, hfill, .inl ⟨_, hF2, ?_⟩⟩
    refine ⟨fun hbs => ?_, fun hbs => ?_⟩ <;> first | (exfalso; revert hbs; decide) | skip
    refine ⟨fun hbs => ?_, fun hbs => ?_⟩ <;> first | (exfalso; revert hbs; decide) | skip
    refine Wsem.cut _ ?_ tail
    exact ⟨⟨rfl, rfl, rfl, trivial⟩, trivial, rfl⟩
end Go.Proofs.Ytefdahofpjmnfaa
