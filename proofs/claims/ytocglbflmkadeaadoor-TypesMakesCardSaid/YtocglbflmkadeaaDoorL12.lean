/- A part of the proof of a given statement: contracts of functions of the program, under no condition but those that each states. -/
import Derived.Test.YtocglbflmkadeaaDoorL11
set_option linter.unusedSimpArgs false
set_option linter.unusedVariables false
namespace Go.Proofs.YtocglbflmkadeaaDoor
open Go Fp
set_option maxRecDepth 100000
set_option maxHeartbeats 4000000

/-- What is barred in a type's own list. -/
def barF (t : Tp) : ByteArray → Bool := fun x => decide (t.form = 5) && decide (x = t.nam)
def accF (p : ByteArray → Bool) (l : List Tp) : List ByteArray := l.foldl (fun out a => insAll p out (fv a)) []
theorem accF_take {p : ByteArray → Bool} {l : List Tp} {k : Nat} (h : k < l.length) : accF p (l.take (k + 1)) = insAll p (accF p (l.take k)) (fv l[k]) := by
  simp only [accF, List.take_succ_eq_append_getElem h, List.foldl_append, List.foldl_cons, List.foldl_nil]
theorem fv_acc (t : Tp) (h : ¬ t.form = 2) : fv t = accF (barF t) t.args := by
  cases t with
  | var s => exact absurd rfl h
  | app a b =>
    have : barF (.app a b) = no := by funext x; simp [barF, Tp.form, no]
    rw [this]; rfl
  | all s a =>
    have : barF (.all s a) = fun x => decide (x = s) := by funext x; by_cases h : x = s <;> simp [barF, Tp.form, Tp.nam, h]
    rw [this]; rfl
  | _ => rfl

theorem accF_length (p : ByteArray → Bool) (l : List Tp) (k : Nat) (h : l.length ≤ 2) {N : Nat} (hN : ∀ a ∈ l, a.sz ≤ N) : (accF p (l.take k)).length ≤ 2 * N := by
  match l, h with
  | [], _ => simp [accF]
  | [a], _ =>
    have h1 := insAll_length p (fv a) []
    have := fv_length a
    have := hN a (by simp)
    simp at h1
    match k with
    | 0 => simp [accF]
    | k + 1 => simp [accF]; omega
  | [a, b], _ =>
    have h1 := insAll_length p (fv a) []
    have h2 := insAll_length p (fv b) (insAll p [] (fv a))
    have := fv_length a
    have := hN a (by simp)
    have := fv_length b
    have := hN b (by simp)
    simp at h1
    match k with
    | 0 => simp [accF]
    | 1 => simp [accF]; omega
    | k + 2 => simp [accF]; omega

theorem setSz {t : Tp} {N : Nat} (h : t.sz ≤ N + 1) : ∀ a ∈ t.args, a.sz ≤ N := by
  cases t <;> simp [Tp.args, Tp.sz] at h ⊢ <;> omega

theorem snocS (l : List ByteArray) (s : ByteArray) : eSs l ++ [.lit (.string s)] = eSs (l ++ [s]) := by simp [eSs]
theorem ins_yes {p : ByteArray → Bool} {out : List ByteArray} {s : ByteArray} (h1 : memb s out = false) (h2 : p s = false) : ins p out s = out ++ [s] := by
  unfold ins; rw [if_neg]; simp [h2]; intro h; rw [memb_yes h] at h1; cases h1
theorem ins_no {p : ByteArray → Bool} {out : List ByteArray} {s : ByteArray} (h : memb s out = true ∨ p s = true) : ins p out s = out := by
  unfold ins; rw [if_pos]; exact h.imp memb_iff.1 id

theorem free_step (N : Nat) (hN : N < 1000000) (t : Tp) (hs : t.sz ≤ N + 1) (ih : ∀ a ∈ t.args, ACall Tryd.prog n_types_Free [eTy a] (.sl (eSs (fv a)))) : ACall Tryd.prog n_types_Free [eTy t] (.sl (eSs (fv t))) := by
  refine acall_of_wc ttok mixed Tryd.func30 rfl (by rfl) (Nat.le_of_ble_eq_true rfl) (by kernel_rfl) ?_
  refine ⟨fun h => ?_, fun h => ?_⟩
  · obtain ⟨s, rfl⟩ := Tp.is_var (t := t) (by simpa using h)
    exact rfl
  · have hf : ¬ t.form = 2 := by simpa using h
    rw [fv_acc t hf]
    have hlen : t.eArgs.length = t.args.length := lenT t
    have h2 := args_le t
    refine ⟨{k : Nat // k ≤ t.args.length}, fun k => { vs := [(1, .box 0 (eTy t)), (3, .v (.sl (eSs (accF (barF t) (t.args.take k.1))))), (15, .v (.sl t.eArgs)), (16, .v (.lit (.int .i64 (t.eArgs.length : Nat)))), (17, .v (.lit (.int .i64 (k.1 : Nat))))], ow := [(3, 0, 2)] },
      fun k => t.args.length - k.1, ⟨0, Nat.zero_le _⟩, ⟨⟨rfl, rfl, rfl, rfl, rfl, trivial⟩, ⟨trivial, trivial⟩, rfl⟩, ?_⟩
    rintro ⟨k, hk⟩
    refine ⟨fun h => ?_, fun h => ?_⟩
    · have h : k < t.args.length := by simp [hlen] at h; omega
      refine ⟨eTy t.args[k], by simp, by rw [t.eArgs_eq]; exact getT h, rfl, ?_⟩
      refine .inl ⟨_, ih _ (List.getElem_mem h), ?_⟩
      obtain ⟨out, hout⟩ : ∃ out, out = accF (barF t) (t.args.take k) := ⟨_, rfl⟩
      obtain ⟨m, hm⟩ : ∃ m, m = fv t.args[k] := ⟨_, rfl⟩
      rw [← hout, ← hm]
      have hol : out.length ≤ 2 * N := by rw [hout]; exact accF_length _ _ _ h2 (setSz hs)
      have hml : m.length ≤ N := by rw [hm]; exact Nat.le_trans (fv_length _) (setSz hs _ (List.getElem_mem h))
      have hlm : (eSs m).length = m.length := by simp [eSs]
      refine ⟨{j : Nat // j ≤ m.length}, fun j => { vs := [(1, .box 0 (eTy t)), (3, .v (.sl (eSs (insAll (barF t) out (m.take j.1))))), (15, .v (.sl t.eArgs)), (16, .v (.lit (.int .i64 (t.eArgs.length : Nat)))), (17, .v (.lit (.int .i64 (k : Nat)))), (22, .v (.sl (eSs m))), (23, .v (.lit (.int .i64 ((eSs m).length : Nat)))), (24, .v (.lit (.int .i64 (j.1 : Nat))))], ow := [(3, 0, 2)] },
        fun j => m.length - j.1, ⟨0, Nat.zero_le _⟩, ⟨⟨rfl, rfl, rfl, rfl, rfl, rfl, rfl, rfl, trivial⟩, ⟨rfl, trivial⟩, rfl⟩, ?_⟩
      rintro ⟨j, hj⟩
      refine ⟨fun h3 => ?_, fun h3 => ?_⟩
      · have h3 : j < m.length := by simp [hlm] at h3; omega
        have hacc := insAll_length (barF t) (m.take j) out
        have htk := insAll_take (p := barF t) (out := out) h3
        refine ⟨_, by omega, getS h3, rfl, ?_⟩
        simp only [List.length_take] at hacc
        refine .inl ⟨_, contains_ok (l := insAll (barF t) out (m.take j)) (s := m[j]) (by omega), ?_⟩
        have wj : IntKind.i64.wrap ((j : Int) + 1) = ((j + 1 : Nat) : Int) := wrap_succ (by omega)
        have skip : ∀ (_ : insAll (barF t) out (m.take (j + 1)) = insAll (barF t) out (m.take j)), AV.sl (eSs (insAll (barF t) out (m.take j))) = AV.sl (eSs (insAll (barF t) out (m.take (j + 1)))) := fun e => by rw [e]
        refine ⟨fun hc => ?_, fun hc => ?_⟩
        · have hc : memb m[j] (insAll (barF t) out (m.take j)) = false := by simpa using hc
          refine ⟨fun h5 => ?_, fun h5 => ?_⟩
          · refine ⟨fun h6 => ?_, fun h6 => ?_⟩
            · rw [ins_yes hc (by simp [barF] at h5 h6 ⊢; simp [h6])] at htk
              refine ⟨by simp [eSs]; omega, uniS _, uniS [_], ?_⟩
              refine ⟨⟨j + 1, h3⟩, (show m.length - (j + 1) < m.length - j by omega), ⟨rfl, ?_, rfl, rfl, rfl, rfl, rfl, ?_, trivial⟩, ⟨rfl, trivial⟩, rfl⟩
              · show SV.v (AV.sl (eSs (insAll (barF t) out (m.take j)) ++ [AV.lit (.string m[j])])) = SV.v (AV.sl (eSs (insAll (barF t) out (m.take (j + 1)))))
                rw [snocS, htk]
              · exact congrArg (fun n => SV.v (AV.lit (Value.int .i64 n))) wj
            · rw [ins_no (.inr (by simp [barF] at h5 h6 ⊢; simp [h5, h6]))] at htk
              refine ⟨⟨j + 1, h3⟩, (show m.length - (j + 1) < m.length - j by omega), ⟨rfl, ?_, rfl, rfl, rfl, rfl, rfl, ?_, trivial⟩, ⟨rfl, trivial⟩, rfl⟩
              · exact congrArg SV.v (skip htk)
              · exact congrArg (fun n => SV.v (AV.lit (Value.int .i64 n))) wj
          · rw [ins_yes hc (by simp [barF] at h5 ⊢; simp [h5])] at htk
            refine ⟨by simp [eSs]; omega, uniS _, uniS [_], ?_⟩
            refine ⟨⟨j + 1, h3⟩, (show m.length - (j + 1) < m.length - j by omega), ⟨rfl, ?_, rfl, rfl, rfl, rfl, rfl, ?_, trivial⟩, ⟨rfl, trivial⟩, rfl⟩
            · show SV.v (AV.sl (eSs (insAll (barF t) out (m.take j)) ++ [AV.lit (.string m[j])])) = SV.v (AV.sl (eSs (insAll (barF t) out (m.take (j + 1)))))
              rw [snocS, htk]
            · exact congrArg (fun n => SV.v (AV.lit (Value.int .i64 n))) wj
        · have hc : memb m[j] (insAll (barF t) out (m.take j)) = true := by simpa using hc
          rw [ins_no (.inl hc)] at htk
          refine ⟨⟨j + 1, h3⟩, (show m.length - (j + 1) < m.length - j by omega), ⟨rfl, ?_, rfl, rfl, rfl, rfl, rfl, ?_, trivial⟩, ⟨rfl, trivial⟩, rfl⟩
          · exact congrArg SV.v (skip htk)
          · exact congrArg (fun n => SV.v (AV.lit (Value.int .i64 n))) wj
      · have h3 : j = m.length := by simp [hlm] at h3; omega
        subst h3
        have e : insAll (barF t) out (m.take m.length) = accF (barF t) (t.args.take (k + 1)) := by rw [List.take_length, accF_take h, ← hout, ← hm]
        refine ⟨⟨k + 1, h⟩, (show t.args.length - (k + 1) < t.args.length - k by omega), ⟨rfl, ?_, rfl, rfl, ?_, trivial⟩, ⟨rfl, trivial⟩, rfl⟩
        · exact congrArg (fun l => SV.v (AV.sl (eSs l))) e
        · exact congrArg (fun n => SV.v (AV.lit (Value.int .i64 n))) (wrap_succ (k := k) (by omega))
    · have h : k = t.args.length := by simp [hlen] at h; omega
      subst h
      rw [List.take_length]
      exact rfl

theorem free_ok (N : Nat) (hN : N < 1000000) : ∀ t : Tp, t.sz ≤ N → ACall Tryd.prog n_types_Free [eTy t] (.sl (eSs (fv t))) := by
  induction N with
  | zero => intro t h; have := sz_pos t; omega
  | succ N ih => exact fun t h => free_step N (by omega) t h fun a ha => ih (by omega) a (setSz h a ha)
end Go.Proofs.YtocglbflmkadeaaDoor
