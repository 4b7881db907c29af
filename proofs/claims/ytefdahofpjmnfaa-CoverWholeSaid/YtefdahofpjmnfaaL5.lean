/- A part of the proof of a given statement: contracts of functions of the program, under no condition but those that each states. -/
import Derived.Test.YtefdahofpjmnfaaL4
set_option linter.unusedSimpArgs false
set_option linter.unusedVariables false
namespace Go.Proofs.Ytefdahofpjmnfaa
open Go Fp
set_option maxRecDepth 10000
set_option maxHeartbeats 8000000

theorem pattern_ok {l : List Int} (hr : ∀ x ∈ l, InR x) : ∀ (d : Nat), d ≤ 3 → ∀ (a t : Nat), a + cap d < 4611686018427387904 → t < 5 →
    ∃ p nx, ACall Try.prog n_fugueref14_Pattern [.sl (eIs l), .lit (.int .i64 (a : Nat)), .lit (.int .i64 (t : Nat)), .lit (.int .i64 (d : Nat))] (.tup [ePt p, .lit (.int .i64 (nx : Nat))]) ∧ TyP t p ∧ nx ≤ a + cap d ∧ p.sz ≤ cap d := by
  have c1 : ∀ d, 1 ≤ cap d := fun d => by cases d <;> simp [cap]
  have base : ∀ (d a t n : Nat), a + cap d < 4611686018427387904 → t < 5 → n < 9223372036854775808 → ACall Try.prog n_fugueref14_pick [.sl (eIs l), .lit (.int .i64 (a : Nat))] (.lit (.int .i64 (n : Nat))) →
      (n % 5 = 0 ∨ n % 5 = 1 ∨ t = 0 ∨ d = 0) → ∃ p nx, ACall Try.prog n_fugueref14_Pattern [.sl (eIs l), .lit (.int .i64 (a : Nat)), .lit (.int .i64 (t : Nat)), .lit (.int .i64 (d : Nat))] (.tup [ePt p, .lit (.int .i64 (nx : Nat))]) ∧ TyP t p ∧ nx ≤ a + cap d ∧ p.sz ≤ cap d := by
    intro d a t n ha ht hn hp hc
    have := c1 d
    by_cases h0 : n % 5 = 0 ∨ d = 0 ∧ 0 < t
    · exact ⟨_, _, pat_wild (by omega) ht hp h0, .any _ _ (.inl rfl) rfl (fun h => by cases h), by omega, by simp [Pt.sz, szL]; omega⟩
    by_cases h1 : n % 5 = 1
    · obtain ⟨s, hs, hq⟩ := pat_var (by omega) ht hp h0 h1
      exact ⟨_, _, hq, .any _ _ (.inr rfl) rfl (fun _ => ⟨hs, rfl⟩), by omega, by simp [Pt.sz, szL]; omega⟩
    have ht0 : t = 0 := by omega
    subst ht0
    exact ⟨_, _, pat_int (by omega) hp hn (by omega) h1, .int _ rfl rfl ⟨by simp [Pt.n]; omega, by simp [Pt.n]; omega⟩, by omega, by simp [Pt.sz, szL]; omega⟩
  intro d
  induction d with
  | zero =>
    intro _ a t ha ht
    obtain ⟨n, hn, hp⟩ := pick14_ok (l := l) (k := a) hr
    exact base 0 a t n ha ht hn hp (.inr (.inr (.inr rfl)))
  | succ d ih =>
    intro hd a t ha ht
    obtain ⟨n, hn, hp⟩ := pick14_ok (l := l) (k := a) hr
    by_cases hb : n % 5 = 0 ∨ n % 5 = 1 ∨ t = 0
    · exact base (d + 1) a t n ha ht hn hp (by omega)
    have h0 : 0 < t := by omega
    have ih' := ih (by omega)
    have hlen := wCons_len h0 ht
    have hk : n / 5 % (wCons t).length < (wCons t).length := Nat.mod_lt _ hlen.1
    let P : Nat → Nat → Pt := fun a t => if h : a + cap d < 4611686018427387904 ∧ t < 5 then (ih' a t h.1 h.2).choose else wildP
    let N : Nat → Nat → Nat := fun a t => if h : a + cap d < 4611686018427387904 ∧ t < 5 then (ih' a t h.1 h.2).choose_spec.choose else 0
    have hPN : ∀ a t, a + cap d < 4611686018427387904 → t < 5 → ACall Try.prog n_fugueref14_Pattern [.sl (eIs l), .lit (.int .i64 (a : Nat)), .lit (.int .i64 (t : Nat)), .lit (.int .i64 (d : Nat))] (.tup [ePt (P a t), .lit (.int .i64 (N a t : Nat))]) ∧ TyP t (P a t) ∧ N a t ≤ a + cap d ∧ (P a t).sz ≤ cap d := fun a t h1 h2 => by
      have := (ih' a t h1 h2).choose_spec.choose_spec
      simp only [P, N, dif_pos (show a + cap d < 4611686018427387904 ∧ t < 5 from ⟨h1, h2⟩)]
      exact this
    have hc := pat_con (P := P) (N := N) (d := d) (by simpa [cap] using ha) h0 ht hp hn (by omega) (by omega) (by omega) (fun a t h1 h2 => (hPN a t h1 h2).1) (fun a t h1 h2 => (hPN a t h1 h2).2) rfl hk
    have hfs := wCons_fs (List.getElem_mem hk)
    have hm2 : (wCons t)[n / 5 % (wCons t).length].2.length * cap d ≤ 2 * cap d := Nat.mul_le_mul_right _ hfs.1
    obtain ⟨s1, s2, s3, s4⟩ := stp_facts (P := P) (N := N) (c := cap d) (fun a t h1 h2 => (hPN a t h1 h2).2) (wCons t)[n / 5 % (wCons t).length].2 (a + 1) hfs.2.1 (by simp [cap] at ha; omega)
    refine ⟨_, _, hc, .con t _ _ rfl (List.getElem_mem hk) s1 s2, by simp only [cap]; omega, by simp only [Pt.sz, cap]; omega⟩

theorem stp_each {P : Nat → Nat → Pt} {N : Nat → Nat → Nat} (h : ∀ a t, a + 15 < 4611686018427387904 → t < 5 → N a t ≤ a + 15 ∧ (P a t).sz ≤ 15) : ∀ (fs : List Nat) (a : Nat), (∀ u ∈ fs, u < 5) → a + fs.length * 15 < 4611686018427387904 → ∀ p ∈ (stp P N fs a).1, p.sz ≤ 15
  | [], a, _, _, p, hp => by simp [stp] at hp
  | v :: fs, a, h5, hb, p, hp => by
    obtain ⟨h2, h3⟩ := h a v (by simp at hb; omega) (h5 v (by simp))
    rcases List.mem_cons.1 hp with rfl | hp
    · exact h3
    · exact stp_each h fs (N a v) (fun u hu => h5 u (by simp [hu])) (by simp at hb; omega) p hp

/-- Up to five patterns of a type. -/
theorem pats_ok {l : List Int} (hr : ∀ x ∈ l, InR x) (hl : l.length < 9223372036854775808) : ∃ ps t, ACall Try.prog n_fugueref20_Pats [.sl (eIs l)] (.tup [.sl (ePts ps), .lit (.int .i64 (t : Nat))]) ∧ t < 5 ∧ ps.length ≤ 5 ∧ ∀ p ∈ ps, TyP t p ∧ p.sz ≤ 15 := by
  have hr' : ∀ x ∈ l.take 40, InR x := fun x hx => hr x (List.mem_of_mem_take hx)
  obtain ⟨n, hn, hp⟩ := pick20_ok (l := l.take 40) (k := 0) hr'
  have pat := pattern_ok hr' 3 (by decide)
  let P : Nat → Nat → Pt := fun a t => if h : a + cap 3 < 4611686018427387904 ∧ t < 5 then (pat a t h.1 h.2).choose else wildP
  let N : Nat → Nat → Nat := fun a t => if h : a + cap 3 < 4611686018427387904 ∧ t < 5 then (pat a t h.1 h.2).choose_spec.choose else 0
  have hPN : ∀ a t, a + cap 3 < 4611686018427387904 → t < 5 → ACall Try.prog n_fugueref14_Pattern [.sl (eIs (l.take 40)), .lit (.int .i64 (a : Nat)), .lit (.int .i64 (t : Nat)), .lit (.int .i64 (3 : Nat))] (.tup [ePt (P a t), .lit (.int .i64 (N a t : Nat))]) ∧ TyP t (P a t) ∧ N a t ≤ a + cap 3 ∧ (P a t).sz ≤ cap 3 := fun a t h1 h2 => by
    have := (pat a t h1 h2).choose_spec.choose_spec
    simp only [P, N, dif_pos (show a + cap 3 < 4611686018427387904 ∧ t < 5 from ⟨h1, h2⟩)]
    exact this
  have c3 : cap 3 = 15 := rfl
  obtain ⟨t, ht⟩ : ∃ t, t = n % 5 := ⟨_, rfl⟩
  obtain ⟨m, hm⟩ : ∃ m, m = n / 5 % 6 := ⟨_, rfl⟩
  have facts := fun k => stp_facts (P := P) (N := N) (c := 15) (fun a t h1 h2 => (hPN a t h1 h2).2) (List.replicate k t) 1 (fun u hu => by rw [(List.mem_replicate.1 hu).2]; omega)
  refine ⟨(stp P N (List.replicate m t) 1).1, t, ?_, by omega, ?_, ?_⟩
  · have w5 : IntKind.i64.wrap ((n : Int).tdiv 5) = ((n / 5 : Nat) : Int) := by rw [show ((n : Int).tdiv 5) = ((n / 5 : Nat) : Int) by simp]; exact wrap_nat (by omega)
    have w6 : (IntKind.i64.wrap ((n : Int).tdiv 5)).tmod 6 = (m : Int) := by rw [w5, hm]; rfl
    have m5 : ((n : Int).tmod 5) = (t : Int) := by rw [ht]; rfl
    refine acall_of_wc ttok mixed Try.func7 rfl (by rfl) (Nat.le_of_ble_eq_true rfl) (by kernel_rfl) ?_
    have inv : ∀ (F : (α : Type) → (α → Fr) → (α → Nat) → α → Prop), F {i : Nat // i ≤ m} (fun i => { vs := [(0, .v (.sl (eIs (l.take 40)))), (4, .v (.lit (.int .i64 (t : Nat)))), (5, .v (.lit (.int .i64 ((stp P N (List.replicate i.1 t) 1).2 : Nat)))), (6, .v (.sl (ePts (stp P N (List.replicate i.1 t) 1).1))), (7, .v (.lit (.int .i64 (i.1 : Nat))))], ow := [(6, 0, 11)] })
      (fun i => m - i.1) ⟨0, Nat.zero_le _⟩ → ∃ α I μ y, F α I μ y := fun F h => ⟨_, _, _, _, h⟩
    have l0 : (0 : Int) = ((0 : Nat) : Int) := rfl
    refine ⟨fun h => ?_, fun h => ?_⟩
    · have h : 40 < l.length := by simp [eIs] at h; omega
      have hdr : List.drop (Int.toNat 0) (List.take (Int.toNat 40) (eIs l)) = eIs (l.take 40) := by simp [eIs]
      have hp' := hp
      rw [← hdr] at hp'
      refine ⟨by decide, by decide, by simp [eIs]; omega, .inl rfl, ?_⟩
      refine .inl ⟨_, hp', ?_⟩
      refine ⟨by decide, ?_⟩
      refine inv _ ⟨⟨⟨congrArg (fun l => SV.v (AV.sl l)) hdr, congrArg (fun l => SV.v (AV.lit (Value.int .i64 l))) m5, rfl, rfl, rfl, trivial⟩, ⟨trivial, trivial⟩, rfl⟩, ?_⟩
      rintro ⟨i, hi⟩
      refine .inl ⟨_, hp, ?_⟩
      refine ⟨by decide, by decide, ?_⟩
      refine ⟨fun h => ?_, fun h => ?_⟩
      · have h := of_decide_eq_true h; simp only at h
        rw [w6] at h
        have h : i < m := by omega
        have st := facts i (by simp; omega)
        have hb : (stp P N (List.replicate i t) 1).2 ≤ 1 + i * 15 := by simpa using st.2.2.1
        have hc := (hPN (stp P N (List.replicate i t) 1).2 t (by omega) (by omega)).1
        refine .inl ⟨_, hc, ?_⟩
        refine ⟨by rw [lenP, st.1]; simp; omega, uniP _, uniMap (f := ePt) (fun _ => rfl) [_], ?_⟩
        have hs := stp_snoc (P := P) (N := N) t (List.replicate i t) 1
        rw [← List.replicate_succ'] at hs
        refine ⟨⟨i + 1, h⟩, by simp; omega, ⟨rfl, rfl, ?_, ?_, ?_, trivial⟩, ⟨rfl, trivial⟩, rfl⟩
        · show _ = SV.v (AV.lit (Value.int .i64 ((stp P N (List.replicate (i + 1) t) 1).2 : Nat)))
          rw [hs]; rfl
        · show _ = SV.v (AV.sl (ePts (stp P N (List.replicate (i + 1) t) 1).1))
          rw [hs, show ePts ((stp P N (List.replicate i t) 1).1 ++ [P (stp P N (List.replicate i t) 1).2 t]) = ePts (stp P N (List.replicate i t) 1).1 ++ [ePt (P (stp P N (List.replicate i t) 1).2 t)] by simp [ePts]]
          rfl
        · exact congrArg (fun l => SV.v (AV.lit (Value.int .i64 l))) (wrap_succ (k := i) (by omega))
      · have h := of_decide_eq_false h; simp only at h
        rw [w6] at h
        have h : i = m := by omega
        subst h
        exact rfl
    · have h : ¬ 40 < l.length := by simp [eIs] at h; omega
      have hdr : l.take 40 = l := List.take_of_length_le (by omega)
      have hp' := hp
      rw [hdr] at hp'
      refine .inl ⟨_, hp', ?_⟩
      refine ⟨by decide, ?_⟩
      refine inv _ ⟨⟨⟨by rw [hdr]; exact rfl, congrArg (fun l => SV.v (AV.lit (Value.int .i64 l))) m5, rfl, rfl, rfl, trivial⟩, ⟨trivial, trivial⟩, rfl⟩, ?_⟩
      rintro ⟨i, hi⟩
      refine .inl ⟨_, hp, ?_⟩
      refine ⟨by decide, by decide, ?_⟩
      refine ⟨fun h => ?_, fun h => ?_⟩
      · have h := of_decide_eq_true h; simp only at h
        rw [w6] at h
        have h : i < m := by omega
        have st := facts i (by simp; omega)
        have hb : (stp P N (List.replicate i t) 1).2 ≤ 1 + i * 15 := by simpa using st.2.2.1
        have hc := (hPN (stp P N (List.replicate i t) 1).2 t (by omega) (by omega)).1
        refine .inl ⟨_, hc, ?_⟩
        refine ⟨by rw [lenP, st.1]; simp; omega, uniP _, uniMap (f := ePt) (fun _ => rfl) [_], ?_⟩
        have hs := stp_snoc (P := P) (N := N) t (List.replicate i t) 1
        rw [← List.replicate_succ'] at hs
        refine ⟨⟨i + 1, h⟩, by simp; omega, ⟨rfl, rfl, ?_, ?_, ?_, trivial⟩, ⟨rfl, trivial⟩, rfl⟩
        · show _ = SV.v (AV.lit (Value.int .i64 ((stp P N (List.replicate (i + 1) t) 1).2 : Nat)))
          rw [hs]; rfl
        · show _ = SV.v (AV.sl (ePts (stp P N (List.replicate (i + 1) t) 1).1))
          rw [hs, show ePts ((stp P N (List.replicate i t) 1).1 ++ [P (stp P N (List.replicate i t) 1).2 t]) = ePts (stp P N (List.replicate i t) 1).1 ++ [ePt (P (stp P N (List.replicate i t) 1).2 t)] by simp [ePts]]
          rfl
        · exact congrArg (fun l => SV.v (AV.lit (Value.int .i64 l))) (wrap_succ (k := i) (by omega))
      · have h := of_decide_eq_false h; simp only at h
        rw [w6] at h
        have h : i = m := by omega
        subst h
        exact rfl
  · have := facts m (by simp; omega)
    rw [this.1]; simp; omega
  · intro p hp
    have := facts m (by simp; omega)
    obtain ⟨i, hi⟩ := List.getElem?_of_mem hp
    have hlt := (List.getElem?_eq_some_iff.1 hi).1
    rw [this.1] at hlt
    have h2 := this.2.1 i p t hi (by rw [List.getElem?_replicate, if_pos (by simpa using hlt)])
    refine ⟨h2, ?_⟩
    exact stp_each (fun a t h1 h2 => ⟨(hPN a t h1 h2).2.2.1, (hPN a t h1 h2).2.2.2⟩) _ 1 (fun u hu => by rw [(List.mem_replicate.1 hu).2]; omega) (by simp; omega) p hp
end Go.Proofs.Ytefdahofpjmnfaa
