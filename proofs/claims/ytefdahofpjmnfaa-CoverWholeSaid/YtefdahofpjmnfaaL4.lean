/- A part of the proof of a given statement: contracts of functions of the program, under no condition but those that each states. -/
import Derived.Test.YtefdahofpjmnfaaL3
set_option linter.unusedSimpArgs false
set_option linter.unusedVariables false
namespace Go.Proofs.Ytefdahofpjmnfaa
open Go Fp
set_option maxRecDepth 10000
set_option maxHeartbeats 8000000

/-- Parts made one behind the other. -/
def stp (P : Nat → Nat → Pt) (N : Nat → Nat → Nat) : List Nat → Nat → List Pt × Nat
  | [], a => ([], a)
  | u :: fs, a => (P a u :: (stp P N fs (N a u)).1, (stp P N fs (N a u)).2)
theorem stp_snoc {P : Nat → Nat → Pt} {N : Nat → Nat → Nat} (u : Nat) : ∀ (fs : List Nat) (a : Nat), stp P N (fs ++ [u]) a = ((stp P N fs a).1 ++ [P (stp P N fs a).2 u], N (stp P N fs a).2 u)
  | [], a => rfl
  | v :: fs, a => by simp only [List.cons_append, stp, stp_snoc u fs]
theorem stp_facts {P : Nat → Nat → Pt} {N : Nat → Nat → Nat} {c : Nat} (h : ∀ a t, a + c < 4611686018427387904 → t < 5 → TyP t (P a t) ∧ N a t ≤ a + c ∧ (P a t).sz ≤ c) :
    ∀ (fs : List Nat) (a : Nat), (∀ u ∈ fs, u < 5) → a + fs.length * c < 4611686018427387904 →
    (stp P N fs a).1.length = fs.length ∧ (∀ (i : Nat) (x : Pt) u, (stp P N fs a).1[i]? = some x → fs[i]? = some u → TyP u x) ∧ (stp P N fs a).2 ≤ a + fs.length * c ∧ szL (stp P N fs a).1 ≤ fs.length * c
  | [], a, _, _ => ⟨rfl, fun i x u hx => by simp [stp] at hx, by simp [stp], by simp [stp, szL]⟩
  | v :: fs, a, h5, hb => by
    have e1 : (v :: fs).length * c = c + fs.length * c := by rw [List.length_cons, Nat.add_mul, Nat.one_mul, Nat.add_comm]
    rw [e1] at hb ⊢
    obtain ⟨h1, h2, h3⟩ := h a v (by omega) (h5 v (by simp))
    obtain ⟨k1, k2, k3, k4⟩ := stp_facts h fs (N a v) (fun u hu => h5 u (by simp [hu])) (by omega)
    refine ⟨by simp [stp, k1], fun i x u hx hu => ?_, by simp only [stp]; omega, by simp only [stp, szL]; omega⟩
    cases i with
    | zero => simp [stp] at hx hu; subst hx; subst hu; exact h1
    | succ i => exact k2 i x u (by simpa [stp] using hx) (by simpa using hu)

def tsOf (t : Nat) : List Tp := if t = 2 then [wTy 0] else if t = 4 then [wTy 1] else []

theorem wCons_len {t : Nat} (h0 : 0 < t) (h5 : t < 5) : 0 < (wCons t).length ∧ (wCons t).length ≤ 3 := by
  match t, h0, h5 with
  | 1, _, _ | 2, _, _ | 3, _, _ | 4, _, _ => decide
  | n + 5, _, h => omega
theorem wCons_fs {t : Nat} {q : ByteArray × List Nat} (h : q ∈ wCons t) : q.2.length ≤ 2 ∧ (∀ u ∈ q.2, u < 5) ∧ 0 < t ∧ t < 5 := by
  match t with
  | 0 => simp [wCons] at h
  | 1 | 2 | 3 | 4 => simp [wCons] at h; rcases h with rfl | rfl | rfl <;> decide
  | n + 5 => simp [wCons] at h

theorem pat_con {l : List Int} {a t d n : Nat} {P : Nat → Nat → Pt} {N : Nat → Nat → Nat} (ha : a + (1 + 2 * cap d) < 4611686018427387904) (h0 : 0 < t) (h5 : t < 5)
    (hpick : ACall Try.prog n_fugueref14_pick [.sl (eIs l), .lit (.int .i64 (a : Nat))] (.lit (.int .i64 (n : Nat)))) (hn : n < 9223372036854775808) (hn0 : ¬ n % 5 = 0) (hn1 : ¬ n % 5 = 1) (hd : d < 1000)
    (hP : ∀ a t, a + cap d < 4611686018427387904 → t < 5 → ACall Try.prog n_fugueref14_Pattern [.sl (eIs l), .lit (.int .i64 (a : Nat)), .lit (.int .i64 (t : Nat)), .lit (.int .i64 (d : Nat))] (.tup [ePt (P a t), .lit (.int .i64 (N a t : Nat))]))
    (hF : ∀ a t, a + cap d < 4611686018427387904 → t < 5 → TyP t (P a t) ∧ N a t ≤ a + cap d ∧ (P a t).sz ≤ cap d) {k : Nat} (hk : k = n / 5 % (wCons t).length) (hkl : k < (wCons t).length) :
    ACall Try.prog n_fugueref14_Pattern [.sl (eIs l), .lit (.int .i64 (a : Nat)), .lit (.int .i64 (t : Nat)), .lit (.int .i64 ((d + 1 : Nat) : Int))]
      (.tup [ePt (.mk 4 0 (wCons t)[k].1 (wTy t) (tsOf t) (stp P N (wCons t)[k].2 (a + 1)).1), .lit (.int .i64 ((stp P N (wCons t)[k].2 (a + 1)).2 : Nat))]) := by
  have hw := worldType_ok t h5
  have hwf := worldFields_ok t ⟨h0, h5⟩
  have m5 : ((n : Int).tmod 5) = ((n % 5 : Nat) : Int) := rfl
  have w5 : IntKind.i64.wrap ((n : Int).tdiv 5) = ((n / 5 : Nat) : Int) := by rw [show ((n : Int).tdiv 5) = ((n / 5 : Nat) : Int) by simp]; exact wrap_nat (by omega)
  have hl1 : (eSs ((wCons t).map (·.1))).length = (wCons t).length := by simp [eSs]
  have e14 : (IntKind.i64.wrap ((n : Int).tdiv 5)).tmod ((eSs ((wCons t).map (·.1))).length : Nat) = (k : Int) := by
    rw [w5, hl1, hk]; rfl
  have wd : IntKind.i64.wrap (((d + 1 : Nat) : Int) - 1) = (d : Int) := wrap_pred (by omega)
  have hlen := wCons_len h0 h5
  have hfs := wCons_fs (List.getElem_mem hkl)
  have hnm : (eSs ((wCons t).map (·.1)))[((IntKind.i64.wrap ((n : Int).tdiv 5)).tmod ((eSs ((wCons t).map (·.1))).length : Nat)).toNat]? = some (.lit (.string (wCons t)[k].1)) := by
    rw [e14]; simp [eSs, hkl]
  have hfi : (eFs (wCons t))[k]? = some (.sl (eIs ((wCons t)[k].2.map Int.ofNat))) := by simp [eFs, hkl]
  generalize hq : (wCons t)[k] = q at *
  obtain ⟨nm, fs⟩ := q
  simp only at hfs hnm hfi ⊢
  refine acall_of_wc ttok mixed Try.func18 rfl (by rfl) (Nat.le_of_ble_eq_true rfl) (by kernel_rfl) ?_
  refine .inl ⟨_, hpick, .inl ⟨_, hw, ?_⟩⟩
  refine ⟨by decide, ?_⟩
  refine ⟨fun h => ?_, fun h => by simp at h; omega⟩
  refine ⟨fun h => by simp at h; omega, fun h => ?_⟩
  refine ⟨by decide, ⟨fun h => by simp at h; omega, fun _ => ?_⟩⟩
  refine ⟨fun h => by simp at h; omega, fun _ => ?_⟩
  refine .inl ⟨_, hwf, ?_⟩
  refine ⟨by decide, by rw [hl1]; omega, ?_⟩
  refine ⟨_, by rw [e14]; omega, hnm, rfl, ?_⟩
  have hw0 := worldType_ok 0 (by decide)
  have hw1 := worldType_ok 1 (by decide)
  obtain ⟨ts, hts⟩ : ∃ ts, ts = tsOf t := ⟨_, rfl⟩
  have stT : ∀ i, (stp P N (fs.take i) (a + 1)).1.length ≤ 2 ∧ (stp P N (fs.take i) (a + 1)).2 ≤ a + 1 + i * cap d := fun i => by
    have hm : (fs.take i).length ≤ i := List.length_take_le _ _
    have hm2 : (fs.take i).length * cap d ≤ i * cap d := Nat.mul_le_mul_right _ hm
    have hm3 : (fs.take i).length * cap d ≤ 2 * cap d := Nat.mul_le_mul_right _ (by simp; omega)
    obtain ⟨s1, _, s2, _⟩ := stp_facts hF (fs.take i) (a + 1) (fun u hu => hfs.2.1 u (List.mem_of_mem_take hu)) (by omega)
    exact ⟨by rw [s1]; simp; omega, by omega⟩
  have inv : ∀ (F : (α : Type) → (α → Fr) → (α → Nat) → α → Prop), F {i : Nat // i ≤ fs.length} (fun i => { vs := [(0, .v (.sl (eIs l))), (1, .v (.lit (.int .i64 ((stp P N (fs.take i.1) (a + 1)).2 : Nat)))), (3, .v (.lit (.int .i64 ((d + 1 : Nat) : Int)))), (8, .box 0 (ePt (.mk 0 0 .empty .no [] []))),
      (11, .box 0 (aPt 4 0 nm (ePts (stp P N (fs.take i.1) (a + 1)).1) (wTy t) ts)), (13, .v (.sl (eFs (wCons t)))), (14, .v (.lit (.int .i64 (k : Nat)))), (15, .v (.lit (.int .i64 (i.1 : Nat))))], ow := [(11, 4, 11)] })
    (fun i => fs.length - i.1) ⟨0, Nat.zero_le _⟩ → ∃ α I μ y, F α I μ y := fun F h => ⟨_, _, _, _, h⟩
  have lenF : (eIs (fs.map Int.ofNat)).length = fs.length := by simp [eIs]
  by_cases h2 : t = 2
  · have e : ts = [wTy 0] := by rw [hts, h2]; rfl
    refine ⟨fun _ => .inl ⟨_, hw0, ?_⟩, fun h => by simp at h; omega⟩
    refine ⟨fun h => by simp at h; omega, fun _ => ?_⟩
    refine inv _ ⟨⟨⟨rfl, congrArg (fun l => SV.v (AV.lit (Value.int .i64 l))) (wrap_succ (k := a) (by omega)), rfl, rfl, by rw [e]; exact rfl, rfl, congrArg (fun l => SV.v (AV.lit (Value.int .i64 l))) e14, rfl, trivial⟩, ⟨trivial, trivial⟩, rfl⟩, ?_⟩
    rintro ⟨i, hi⟩
    refine ⟨_, by omega, hfi, rfl, ?_⟩
    refine ⟨fun h => ?_, fun h => ?_⟩
    · have h : i < fs.length := by simp [lenF] at h; omega
      have st2 := stT i
      have hib : i * cap d + cap d ≤ 2 * cap d := by have : (i + 1) * cap d ≤ 2 * cap d := Nat.mul_le_mul_right _ (by omega); rw [Nat.add_mul, Nat.one_mul] at this; exact this
      have hc := hP (stp P N (fs.take i) (a + 1)).2 fs[i] (by omega) (hfs.2.1 _ (List.getElem_mem h))
      rw [← wd] at hc
      refine ⟨_, by omega, hfi, rfl, ?_⟩
      refine ⟨.lit (.int .i64 (fs[i] : Nat)), by omega, by simp [eIs, h], rfl, ?_⟩
      refine .inl ⟨_, hc, ?_⟩
      refine ⟨by rw [lenP]; simp; omega, uniP _, uniMap (f := ePt) (fun _ => rfl) [_], ?_⟩
      have hs := stp_snoc (P := P) (N := N) fs[i] (fs.take i) (a + 1)
      rw [← List.take_succ_eq_append_getElem h] at hs
      refine ⟨⟨i + 1, h⟩, by simp; omega, ⟨rfl, ?_, rfl, rfl, ?_, rfl, rfl, ?_, trivial⟩, ⟨rfl, trivial⟩, rfl⟩
      · show _ = SV.v (AV.lit (Value.int .i64 ((stp P N (fs.take (i + 1)) (a + 1)).2 : Nat)))
        rw [hs]; rfl
      · show _ = SV.box _ (aPt 4 0 nm (ePts (stp P N (fs.take (i + 1)) (a + 1)).1) (wTy t) ts)
        rw [hs, show ePts ((stp P N (fs.take i) (a + 1)).1 ++ [P (stp P N (fs.take i) (a + 1)).2 fs[i]]) = ePts (stp P N (fs.take i) (a + 1)).1 ++ [ePt (P (stp P N (fs.take i) (a + 1)).2 fs[i])] by simp [ePts]]
        rfl
      · exact congrArg (fun l => SV.v (AV.lit (Value.int .i64 l))) (wrap_succ (k := i) (by omega))
    · have h : i = fs.length := by simp [lenF] at h; omega
      subst h
      show AV.tup [aPt 4 0 nm (ePts (stp P N (fs.take fs.length) (a + 1)).1) (wTy t) ts, .lit (.int .i64 ((stp P N (fs.take fs.length) (a + 1)).2 : Nat))] = _
      rw [List.take_length, aPt_eq, hts]
  by_cases h4 : t = 4
  · have e : ts = [wTy 1] := by rw [hts, h4]; rfl
    refine ⟨fun h => by simp at h; omega, fun _ => ?_⟩
    refine ⟨fun _ => .inl ⟨_, hw1, ?_⟩, fun h => by simp at h; omega⟩
    refine inv _ ⟨⟨⟨rfl, congrArg (fun l => SV.v (AV.lit (Value.int .i64 l))) (wrap_succ (k := a) (by omega)), rfl, rfl, by rw [e]; exact rfl, rfl, congrArg (fun l => SV.v (AV.lit (Value.int .i64 l))) e14, rfl, trivial⟩, ⟨trivial, trivial⟩, rfl⟩, ?_⟩
    rintro ⟨i, hi⟩
    refine ⟨_, by omega, hfi, rfl, ?_⟩
    refine ⟨fun h => ?_, fun h => ?_⟩
    · have h : i < fs.length := by simp [lenF] at h; omega
      have st2 := stT i
      have hib : i * cap d + cap d ≤ 2 * cap d := by have : (i + 1) * cap d ≤ 2 * cap d := Nat.mul_le_mul_right _ (by omega); rw [Nat.add_mul, Nat.one_mul] at this; exact this
      have hc := hP (stp P N (fs.take i) (a + 1)).2 fs[i] (by omega) (hfs.2.1 _ (List.getElem_mem h))
      rw [← wd] at hc
      refine ⟨_, by omega, hfi, rfl, ?_⟩
      refine ⟨.lit (.int .i64 (fs[i] : Nat)), by omega, by simp [eIs, h], rfl, ?_⟩
      refine .inl ⟨_, hc, ?_⟩
      refine ⟨by rw [lenP]; simp; omega, uniP _, uniMap (f := ePt) (fun _ => rfl) [_], ?_⟩
      have hs := stp_snoc (P := P) (N := N) fs[i] (fs.take i) (a + 1)
      rw [← List.take_succ_eq_append_getElem h] at hs
      refine ⟨⟨i + 1, h⟩, by simp; omega, ⟨rfl, ?_, rfl, rfl, ?_, rfl, rfl, ?_, trivial⟩, ⟨rfl, trivial⟩, rfl⟩
      · show _ = SV.v (AV.lit (Value.int .i64 ((stp P N (fs.take (i + 1)) (a + 1)).2 : Nat)))
        rw [hs]; rfl
      · show _ = SV.box _ (aPt 4 0 nm (ePts (stp P N (fs.take (i + 1)) (a + 1)).1) (wTy t) ts)
        rw [hs, show ePts ((stp P N (fs.take i) (a + 1)).1 ++ [P (stp P N (fs.take i) (a + 1)).2 fs[i]]) = ePts (stp P N (fs.take i) (a + 1)).1 ++ [ePt (P (stp P N (fs.take i) (a + 1)).2 fs[i])] by simp [ePts]]
        rfl
      · exact congrArg (fun l => SV.v (AV.lit (Value.int .i64 l))) (wrap_succ (k := i) (by omega))
    · have h : i = fs.length := by simp [lenF] at h; omega
      subst h
      show AV.tup [aPt 4 0 nm (ePts (stp P N (fs.take fs.length) (a + 1)).1) (wTy t) ts, .lit (.int .i64 ((stp P N (fs.take fs.length) (a + 1)).2 : Nat))] = _
      rw [List.take_length, aPt_eq, hts]
  · have e : ts = [] := by rw [hts]; simp [tsOf, h2, h4]
    refine ⟨fun h => by simp at h; omega, fun _ => ?_⟩
    refine ⟨fun h => by simp at h; omega, fun _ => ?_⟩
    refine inv _ ⟨⟨⟨rfl, congrArg (fun l => SV.v (AV.lit (Value.int .i64 l))) (wrap_succ (k := a) (by omega)), rfl, rfl, by rw [e]; exact rfl, rfl, congrArg (fun l => SV.v (AV.lit (Value.int .i64 l))) e14, rfl, trivial⟩, ⟨trivial, trivial⟩, rfl⟩, ?_⟩
    rintro ⟨i, hi⟩
    refine ⟨_, by omega, hfi, rfl, ?_⟩
    refine ⟨fun h => ?_, fun h => ?_⟩
    · have h : i < fs.length := by simp [lenF] at h; omega
      have st2 := stT i
      have hib : i * cap d + cap d ≤ 2 * cap d := by have : (i + 1) * cap d ≤ 2 * cap d := Nat.mul_le_mul_right _ (by omega); rw [Nat.add_mul, Nat.one_mul] at this; exact this
      have hc := hP (stp P N (fs.take i) (a + 1)).2 fs[i] (by omega) (hfs.2.1 _ (List.getElem_mem h))
      rw [← wd] at hc
      refine ⟨_, by omega, hfi, rfl, ?_⟩
      refine ⟨.lit (.int .i64 (fs[i] : Nat)), by omega, by simp [eIs, h], rfl, ?_⟩
      refine .inl ⟨_, hc, ?_⟩
      refine ⟨by rw [lenP]; simp; omega, uniP _, uniMap (f := ePt) (fun _ => rfl) [_], ?_⟩
      have hs := stp_snoc (P := P) (N := N) fs[i] (fs.take i) (a + 1)
      rw [← List.take_succ_eq_append_getElem h] at hs
      refine ⟨⟨i + 1, h⟩, by simp; omega, ⟨rfl, ?_, rfl, rfl, ?_, rfl, rfl, ?_, trivial⟩, ⟨rfl, trivial⟩, rfl⟩
      · show _ = SV.v (AV.lit (Value.int .i64 ((stp P N (fs.take (i + 1)) (a + 1)).2 : Nat)))
        rw [hs]; rfl
      · show _ = SV.box _ (aPt 4 0 nm (ePts (stp P N (fs.take (i + 1)) (a + 1)).1) (wTy t) ts)
        rw [hs, show ePts ((stp P N (fs.take i) (a + 1)).1 ++ [P (stp P N (fs.take i) (a + 1)).2 fs[i]]) = ePts (stp P N (fs.take i) (a + 1)).1 ++ [ePt (P (stp P N (fs.take i) (a + 1)).2 fs[i])] by simp [ePts]]
        rfl
      · exact congrArg (fun l => SV.v (AV.lit (Value.int .i64 l))) (wrap_succ (k := i) (by omega))
    · have h : i = fs.length := by simp [lenF] at h; omega
      subst h
      show AV.tup [aPt 4 0 nm (ePts (stp P N (fs.take fs.length) (a + 1)).1) (wTy t) ts, .lit (.int .i64 ((stp P N (fs.take fs.length) (a + 1)).2 : Nat))] = _
      rw [List.take_length, aPt_eq, hts]
end Go.Proofs.Ytefdahofpjmnfaa
