/- A part of the proof of a given statement: contracts of functions of the program, under no condition but those that each states. -/
import Derived.Test.YtocglbflmkadeaaDoorL3
import Derived.Test.YtocglbflmkadeaaDoorL1
set_option linter.unusedSimpArgs false
set_option linter.unusedVariables false
namespace Go.Proofs.YtocglbflmkadeaaDoor
open Go Fp
set_option maxRecDepth 10000
set_option maxHeartbeats 4000000

def bOut (K : Nat) (al : Bool) (m : Int) (s1 s2 : ByteArray) (a b : Tp) (l rest last : List Int) : Tp × List Int :=
  if K < 2 then (.var s1, l) else if K < 3 then (.mt m, l) else if K < 5 then (.con s2, l) else if K = 9 ∧ al = true then (.all s1 a, rest) else if K < 8 then (.app (.app (.con arrow) a) b, last) else (.app a b, last)

theorem build_ok (N : Nat) : ∀ (l : List Int) (d : Nat) (al : Bool), l.length = N → N < 1000 → (∀ x ∈ l, InR x) → d + N < 10000 →
    ∃ t rest, ACall Tryd.prog n_fugueref04_build [.sl (eIs l), .lit (.int .i64 (d : Nat)), .sb al] (.tup [eTy t, .sl (eIs rest)]) ∧ rest.length ≤ N ∧ (∀ x ∈ rest, InR x) ∧ good t ∧ t.sz + 8 * rest.length ≤ 8 * N + 1 := by
  induction N using Nat.strongRecOn with
  | _ N ih =>
    intro l d al hl hN hr hd
    cases l with
    | nil =>
      refine ⟨.con ⟨#[73, 110, 116]⟩, [], ?_, by simp, by simp, show _ ∈ small6 by simp [small6], by simp at hl ⊢; subst hl; decide⟩
      refine acall_of_wc ttok mixed Tryd.func40 rfl (by rfl) (Nat.le_of_ble_eq_true rfl) (by kernel_rfl) ?_
      refine ⟨fun h => rfl, fun h => by simp [eIs] at h⟩
    | cons x l =>
      simp at hl
      have hx := hr x (by simp)
      have hr' : ∀ y ∈ l, InR y := fun y hy => hr y (by simp [hy])
      obtain ⟨r, hrlt, hc⟩ := around_ok hx (m := 40) (by decide) (by decide)
      obtain ⟨a, rest, ha, ha1, ha2, ha3, ha4⟩ := ih l.length (by omega) l (d + 1) al rfl (by omega) hr' (by omega)
      obtain ⟨b, last, hb, hb1, hb2, hb3, hb4⟩ := ih rest.length (by omega) rest (d + 1) al rfl (by omega) ha2 (by omega)
      have e10 : ((r : Int).tdiv 10) = ((r / 10 : Nat) : Int) := by simp
      have e5 : ((r : Int).tdiv 5) = ((r / 5 : Nat) : Int) := by simp
      have m10 : ((r : Int).tmod 10) = ((r % 10 : Nat) : Int) := rfl
      have m5 : ((r : Int).tmod 5) = ((r % 5 : Nat) : Int) := rfl
      obtain ⟨s1, hs1, hn⟩ := name_ok (n := ((r / 10 : Nat) : Int)) (by unfold InR; omega)
      obtain ⟨s2, hs2, hcn⟩ := con_ok (n := ((r / 5 : Nat) : Int)) (by unfold InR; omega)
      have w10 : IntKind.i64.wrap ((r : Int).tdiv 10) = ((r / 10 : Nat) : Int) := by rw [e10]; exact wrap_nat (by omega)
      have w5 : IntKind.i64.wrap ((r : Int).tdiv 5) = ((r / 5 : Nat) : Int) := by rw [e5]; exact wrap_nat (by omega)
      have w1 : IntKind.i64.wrap (1 + IntKind.i64.wrap ((r : Int).tdiv 10)) = ((1 + r / 10 : Nat) : Int) := by rw [w10, show (1 : Int) + ((r / 10 : Nat) : Int) = ((1 + r / 10 : Nat) : Int) by omega]; exact wrap_nat (by omega)
      have wd : IntKind.i64.wrap ((d : Int) + 1) = ((d + 1 : Nat) : Int) := wrap_succ (by omega)
      have hdr : (List.drop (Int.toNat 1) (List.take (Int.toNat ((eIs (x :: l)).length : Nat)) (eIs (x :: l)))) = eIs l := by simp [eIs]; exact List.take_of_length_le (by simp)
      rw [← w10] at hn
      rw [← w5] at hcn
      rw [← wd] at ha hb
      rw [← hdr] at ha
      obtain ⟨K, hK⟩ : ∃ K, K = if 4 < d then r % 5 else r % 10 := ⟨_, rfl⟩
      have hK10 : K < 10 := by rw [hK]; split <;> omega
      obtain ⟨out, hout⟩ : ∃ out, out = bOut K al ((1 + r / 10 : Nat) : Int) s1 s2 a b l rest last := ⟨_, rfl⟩
      refine ⟨out.1, out.2, ?_, ?_⟩
      · refine acall_of_wc ttok mixed Tryd.func40 rfl (by rfl) (Nat.le_of_ble_eq_true rfl) (by kernel_rfl) ?_
        refine ⟨fun h => by simp [eIs] at h; omega, fun _ => ?_⟩
        refine ⟨_, by decide, rfl, rfl, ?_⟩
        refine .inl ⟨_, hc, ?_⟩
        refine ⟨by decide, ?_, Int.le_refl _, .inr (uniI _), ?_⟩
        · show (1 : Int) ≤ ((eIs (x :: l)).length : Nat); simp [eIs]; omega
        refine ⟨by decide, ?_⟩
        refine ⟨fun h4 => ?_, fun h4 => ?_⟩
        · have h4 : 4 < d := by simp at h4; omega
          rw [if_pos h4] at hK
          refine ⟨by decide, ?_⟩
          refine ⟨fun h => ?_, fun h => ?_⟩
          · have h : K < 2 := by simp at h; omega
            refine ⟨by decide, .inl ⟨_, hn, ?_⟩⟩
            rw [hout, bOut, if_pos h, ← hdr]
            exact rfl
          have h2 : ¬ K < 2 := by simp at h; omega
          refine ⟨fun h => ?_, fun h => ?_⟩
          · have h : K < 3 := by simp at h; omega
            refine ⟨by decide, ?_⟩
            rw [hout, bOut, if_neg h2, if_pos h, ← w1, ← hdr]
            exact rfl
          have h3 : ¬ K < 3 := by simp at h; omega
          refine ⟨fun h => ?_, fun h => ?_⟩
          · have h : K < 5 := by simp at h; omega
            refine ⟨by decide, .inl ⟨_, hcn, ?_⟩⟩
            rw [hout, bOut, if_neg h2, if_neg h3, if_pos h, ← hdr]
            exact rfl
          · simp at h; omega
        · have h4 : ¬ 4 < d := by simp at h4; omega
          rw [if_neg h4] at hK
          refine ⟨fun h => ?_, fun h => ?_⟩
          · have h : K < 2 := by simp at h; omega
            refine ⟨by decide, .inl ⟨_, hn, ?_⟩⟩
            rw [hout, bOut, if_pos h, ← hdr]
            exact rfl
          have h2 : ¬ K < 2 := by simp at h; omega
          refine ⟨fun h => ?_, fun h => ?_⟩
          · have h : K < 3 := by simp at h; omega
            refine ⟨by decide, ?_⟩
            rw [hout, bOut, if_neg h2, if_pos h, ← w1, ← hdr]
            exact rfl
          have h3 : ¬ K < 3 := by simp at h; omega
          refine ⟨fun h => ?_, fun h => ?_⟩
          · have h : K < 5 := by simp at h; omega
            refine ⟨by decide, .inl ⟨_, hcn, ?_⟩⟩
            rw [hout, bOut, if_neg h2, if_neg h3, if_pos h, ← hdr]
            exact rfl
          have h5 : ¬ K < 5 := by simp at h; omega
          refine .inl ⟨_, ha, ?_⟩
          have fin : (Go.Proofs.YtocglbflmkadeaaDoor.bOut K al ((1 + r / 10 : Nat) : Int) s1 s2 a b l rest last) = (if K = 9 ∧ al = true then (.all s1 a, rest) else if K < 8 then (.app (.app (.con arrow) a) b, last) else (.app a b, last)) := by
            rw [bOut, if_neg h2, if_neg h3, if_neg h5]
          refine ⟨fun h => ?_, fun h => ?_⟩
          · have h9 : K = 9 := by simp at h; omega
            refine ⟨fun hal => ?_, fun hal => ?_⟩
            · refine ⟨by decide, .inl ⟨_, hn, ?_⟩⟩
              rw [hout, fin, if_pos ⟨h9, hal⟩]
              exact rfl
            · refine .inl ⟨_, hb, ?_⟩
              refine ⟨fun h => by simp at h; omega, fun h => ?_⟩
              refine .inl ⟨_, app_ok a b, ?_⟩
              rw [hout, fin, if_neg (by rw [hal]; simp), if_neg (by omega)]
              exact rfl
          · have h9 : ¬ K = 9 := by simp at h; omega
            refine .inl ⟨_, hb, ?_⟩
            rw [hout, fin, if_neg (fun h => h9 h.1)]
            refine ⟨fun h => ?_, fun h => ?_⟩
            · rw [if_pos (by simp at h; omega)]
              refine .inl ⟨_, reffun_ok a b, ?_⟩
              exact rfl
            · rw [if_neg (by simp at h; omega)]
              refine .inl ⟨_, app_ok a b, ?_⟩
              exact rfl
      · rw [hout, bOut]
        split
        · exact ⟨by simp; omega, hr', hs1, by simp [Tp.sz]; omega⟩
        split
        · exact ⟨by simp; omega, hr', ⟨1 + r / 10, rfl, by omega⟩, by simp [Tp.sz]; omega⟩
        split
        · exact ⟨by simp; omega, hr', hs2, by simp [Tp.sz]; omega⟩
        split
        · exact ⟨by simp; omega, ha2, ⟨hs1, ha3⟩, by simp [Tp.sz]; omega⟩
        split
        · exact ⟨by simp; omega, hb2, ⟨⟨show _ ∈ small6 by simp [small6], ha3⟩, hb3⟩, by simp [Tp.sz]; omega⟩
        · exact ⟨by simp; omega, hb2, ⟨ha3, hb3⟩, by simp [Tp.sz]; omega⟩
end Go.Proofs.YtocglbflmkadeaaDoor
