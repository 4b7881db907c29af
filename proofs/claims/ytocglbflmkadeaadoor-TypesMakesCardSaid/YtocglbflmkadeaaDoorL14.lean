/- A part of the proof of a given statement: contracts of functions of the program, under no condition but those that each states. -/
import Derived.Test.YtocglbflmkadeaaDoorL13
set_option linter.unusedSimpArgs false
set_option linter.unusedVariables false
namespace Go.Proofs.YtocglbflmkadeaaDoor
open Go Fp
set_option maxRecDepth 100000
set_option maxHeartbeats 4000000

def accM (l : List Tp) : List Int := l.foldl (fun out a => insAll no out (mv a)) []
theorem accM_take {l : List Tp} {k : Nat} (h : k < l.length) : accM (l.take (k + 1)) = insAll no (accM (l.take k)) (mv l[k]) := by
  simp only [accM, List.take_succ_eq_append_getElem h, List.foldl_append, List.foldl_cons, List.foldl_nil]
theorem mv_acc (t : Tp) (h : ¬ t.form = 1) : mv t = accM t.args := by
  cases t with
  | mt s => exact absurd rfl h
  | _ => rfl

theorem accM_length (l : List Tp) (k : Nat) (h : l.length ≤ 2) {N : Nat} (hN : ∀ a ∈ l, a.sz ≤ N) : (accM (l.take k)).length ≤ 2 * N := by
  match l, h with
  | [], _ => simp [accM]
  | [a], _ =>
    have h1 := insAll_length no (mv a) []
    have := mv_length a
    have := hN a (by simp)
    simp at h1
    match k with
    | 0 => simp [accM]
    | k + 1 => simp [accM]; omega
  | [a, b], _ =>
    have h1 := insAll_length no (mv a) []
    have h2 := insAll_length no (mv b) (insAll no [] (mv a))
    have := mv_length a
    have := hN a (by simp)
    have := mv_length b
    have := hN b (by simp)
    simp at h1
    match k with
    | 0 => simp [accM]
    | 1 => simp [accM]; omega
    | k + 2 => simp [accM]; omega

theorem snocI (l : List Int) (s : Int) : eIs l ++ [.lit (.int .i64 s)] = eIs (l ++ [s]) := by simp [eIs]
theorem insM_yes {out : List Int} {s : Int} (h1 : memb s out = false) : ins no out s = out ++ [s] := by
  unfold ins; rw [if_neg]; simp [no]; intro h; rw [memb_yes h] at h1; cases h1
theorem insM_no {out : List Int} {s : Int} (h : memb s out = true) : ins no out s = out := by
  unfold ins; rw [if_pos]; exact .inl (memb_iff.1 h)

theorem metas_step (N : Nat) (hN : N < 1000000) (t : Tp) (hs : t.sz ≤ N + 1) (ih : ∀ a ∈ t.args, ACall Tryd.prog n_types_Metas [eTy a] (.sl (eIs (mv a)))) : ACall Tryd.prog n_types_Metas [eTy t] (.sl (eIs (mv t))) := by
  refine acall_of_wc ttok mixed Tryd.func33 rfl (by rfl) (Nat.le_of_ble_eq_true rfl) (by kernel_rfl) ?_
  refine ⟨fun h => ?_, fun h => ?_⟩
  · obtain ⟨s, rfl⟩ := Tp.is_mt (t := t) (by simpa using h)
    exact rfl
  · have hf : ¬ t.form = 1 := by simpa using h
    rw [mv_acc t hf]
    have hlen : t.eArgs.length = t.args.length := lenT t
    have h2 := args_le t
    refine ⟨{k : Nat // k ≤ t.args.length}, fun k => { vs := [(1, .box 0 (eTy t)), (3, .v (.sl (eIs (accM (t.args.take k.1))))), (15, .v (.sl t.eArgs)), (16, .v (.lit (.int .i64 (t.eArgs.length : Nat)))), (17, .v (.lit (.int .i64 (k.1 : Nat))))], ow := [(3, 0, 2)] },
      fun k => t.args.length - k.1, ⟨0, Nat.zero_le _⟩, ⟨⟨rfl, rfl, rfl, rfl, rfl, trivial⟩, ⟨trivial, trivial⟩, rfl⟩, ?_⟩
    rintro ⟨k, hk⟩
    refine ⟨fun h => ?_, fun h => ?_⟩
    · have h : k < t.args.length := by simp [hlen] at h; omega
      refine ⟨eTy t.args[k], by simp, by rw [t.eArgs_eq]; exact getT h, rfl, ?_⟩
      refine .inl ⟨_, ih _ (List.getElem_mem h), ?_⟩
      obtain ⟨out, hout⟩ : ∃ out, out = accM (t.args.take k) := ⟨_, rfl⟩
      obtain ⟨m, hm⟩ : ∃ m, m = mv t.args[k] := ⟨_, rfl⟩
      rw [← hout, ← hm]
      have hol : out.length ≤ 2 * N := by rw [hout]; exact accM_length _ _ h2 (setSz hs)
      have hml : m.length ≤ N := by rw [hm]; exact Nat.le_trans (mv_length _) (setSz hs _ (List.getElem_mem h))
      have hlm : (eIs m).length = m.length := by simp [eIs]
      refine ⟨{j : Nat // j ≤ m.length}, fun j => { vs := [(1, .box 0 (eTy t)), (3, .v (.sl (eIs (insAll no out (m.take j.1))))), (15, .v (.sl t.eArgs)), (16, .v (.lit (.int .i64 (t.eArgs.length : Nat)))), (17, .v (.lit (.int .i64 (k : Nat)))), (22, .v (.sl (eIs m))), (23, .v (.lit (.int .i64 ((eIs m).length : Nat)))), (24, .v (.lit (.int .i64 (j.1 : Nat))))], ow := [(3, 0, 2)] },
        fun j => m.length - j.1, ⟨0, Nat.zero_le _⟩, ⟨⟨rfl, rfl, rfl, rfl, rfl, rfl, rfl, rfl, trivial⟩, ⟨rfl, trivial⟩, rfl⟩, ?_⟩
      rintro ⟨j, hj⟩
      refine ⟨fun h3 => ?_, fun h3 => ?_⟩
      · have h3 : j < m.length := by simp [hlm] at h3; omega
        have hacc := insAll_length no (m.take j) out
        have htk := insAll_take (p := no) (out := out) h3
        refine ⟨_, by omega, getI h3, rfl, ?_⟩
        simp only [List.length_take] at hacc
        refine .inl ⟨_, containsI_ok (l := insAll no out (m.take j)) (s := m[j]) (by omega), ?_⟩
        have wj : IntKind.i64.wrap ((j : Int) + 1) = ((j + 1 : Nat) : Int) := wrap_succ (by omega)
        refine ⟨fun hc => ?_, fun hc => ?_⟩
        · have hc : memb m[j] (insAll no out (m.take j)) = false := by simpa using hc
          rw [insM_yes hc] at htk
          refine ⟨by simp [eIs]; omega, uniI _, uniI [_], ?_⟩
          refine ⟨⟨j + 1, h3⟩, (show m.length - (j + 1) < m.length - j by omega), ⟨rfl, ?_, rfl, rfl, rfl, rfl, rfl, ?_, trivial⟩, ⟨rfl, trivial⟩, rfl⟩
          · show SV.v (AV.sl (eIs (insAll no out (m.take j)) ++ [AV.lit (.int .i64 m[j])])) = SV.v (AV.sl (eIs (insAll no out (m.take (j + 1)))))
            rw [snocI, htk]
          · exact congrArg (fun n => SV.v (AV.lit (Value.int .i64 n))) wj
        · have hc : memb m[j] (insAll no out (m.take j)) = true := by simpa using hc
          rw [insM_no hc] at htk
          refine ⟨⟨j + 1, h3⟩, (show m.length - (j + 1) < m.length - j by omega), ⟨rfl, ?_, rfl, rfl, rfl, rfl, rfl, ?_, trivial⟩, ⟨rfl, trivial⟩, rfl⟩
          · exact congrArg (fun l => SV.v (AV.sl (eIs l))) htk.symm
          · exact congrArg (fun n => SV.v (AV.lit (Value.int .i64 n))) wj
      · have h3 : j = m.length := by simp [hlm] at h3; omega
        subst h3
        have e : insAll no out (m.take m.length) = accM (t.args.take (k + 1)) := by rw [List.take_length, accM_take h, ← hout, ← hm]
        refine ⟨⟨k + 1, h⟩, (show t.args.length - (k + 1) < t.args.length - k by omega), ⟨rfl, ?_, rfl, rfl, ?_, trivial⟩, ⟨rfl, trivial⟩, rfl⟩
        · exact congrArg (fun l => SV.v (AV.sl (eIs l))) e
        · exact congrArg (fun n => SV.v (AV.lit (Value.int .i64 n))) (wrap_succ (k := k) (by omega))
    · have h : k = t.args.length := by simp [hlen] at h; omega
      subst h
      rw [List.take_length]
      exact rfl

theorem metas_ok (N : Nat) (hN : N < 1000000) : ∀ t : Tp, t.sz ≤ N → ACall Tryd.prog n_types_Metas [eTy t] (.sl (eIs (mv t))) := by
  induction N with
  | zero => intro t h; have := sz_pos t; omega
  | succ N ih => exact fun t h => metas_step N (by omega) t h fun a ha => ih (by omega) a (setSz h a ha)

/-! ### the document's -/
theorem mr_length (t : Tp) : ∀ out, (mr t out).length ≤ out.length + t.sz := by
  intro out
  rw [mr_eq]
  have := insAll_length no (mv t) out
  have := mv_length t
  omega
def mrs (l : List Tp) (out : List Int) : List Int := l.foldl (fun out a => mr a out) out
theorem mrs_take {l : List Tp} {out : List Int} {k : Nat} (h : k < l.length) : mrs (l.take (k + 1)) out = mr l[k] (mrs (l.take k) out) := by
  simp only [mrs, List.take_succ_eq_append_getElem h, List.foldl_append, List.foldl_cons, List.foldl_nil]
theorem mrs_room (t : Tp) (out : List Int) {k : Nat} (h : k < t.args.length) : (mrs (t.args.take k) out).length + t.args[k].sz ≤ out.length + t.sz ∧ 1 + t.args[k].sz ≤ t.sz := by
  cases t with
  | app a b =>
    match k, h with
    | 0, _ => simp [mrs, Tp.args, Tp.sz]; omega
    | 1, _ => have := mr_length a out; simp [mrs, Tp.args, Tp.sz]; omega
    | k + 2, h => simp [Tp.args] at h; omega
  | all s a =>
    match k, h with
    | 0, _ => simp [mrs, Tp.args, Tp.sz]
    | k + 1, h => simp [Tp.args] at h
  | _ => simp [Tp.args] at h

abbrev metasSays (t : Tp) (out : List Int) : Prop :=
  CallsG Tryd.prog (fnv n_fugueref04_metas) [] [eTy t, .sl (eIs out)] [0, 2] fun r o h => r = .sl (eIs (mr t out)) ∧ o = 2 ∧ h = []

theorem rmetas_step (N : Nat) (hN : N < 1000000) (t : Tp) (hs : t.sz ≤ N + 1) (out : List Int) (ho : out.length + t.sz ≤ 1000000000)
    (ih : ∀ a ∈ t.args, ∀ out : List Int, out.length + a.sz ≤ 1000000000 → metasSays a out) : metasSays t out := by
  refine callsG_of_wc ttok mixed Tryd.func59 rfl (by rfl) (by rfl) (Nat.le_of_ble_eq_true rfl) (Nat.le_of_ble_eq_true rfl) (by kernel_rfl) ?_
  have hol : (eIs out).length = out.length := by simp [eIs]
  have hlen : t.eArgs.length = t.args.length := lenT t
  have h2 := args_le t
  refine ⟨fun h => ?_, fun h => ?_⟩
  · obtain ⟨s, rfl⟩ := Tp.is_mt (t := t) (by simpa using h)
    refine ⟨{k : Nat // k ≤ out.length ∧ ∀ j, j < k → out[j]? ≠ some s}, fun k => { vs := [(1, .v (.sl (eIs out))), (2, .box 0 (eTy (.mt s))), (5, .v (.lit (.int .i64 (k.1 : Nat))))], ow := [(1, 0, 2)] },
      fun k => out.length - k.1, ⟨0, Nat.zero_le _, fun j hj => absurd hj (by omega)⟩, ⟨⟨rfl, rfl, rfl, trivial⟩, ⟨rfl, trivial⟩, rfl⟩, ?_⟩
    rintro ⟨k, hk, hn⟩
    refine ⟨fun h => ?_, fun h => ?_⟩
    · have h : k < out.length := by simp [hol] at h; omega
      refine ⟨_, by omega, getI h, rfl, ?_⟩
      refine ⟨fun h3 => ?_, fun h3 => ?_⟩
      · have h3 : out[k] = s := of_decide_eq_true h3
        have e : mr (.mt s) out = out := by simp only [mr]; rw [memb_yes (h3 ▸ List.getElem_mem h)]; rfl
        rw [e]
        exact ⟨rfl, rfl, rfl⟩
      · have h3 : out[k] ≠ s := by intro e; simp [e, Tp.num] at h3
        refine ⟨⟨k + 1, h, step_no h h3 hn⟩, (show out.length - (k + 1) < out.length - k by omega), ⟨rfl, rfl, ?_, trivial⟩, ⟨rfl, trivial⟩, rfl⟩
        exact congrArg (fun n => SV.v (AV.lit (Value.int .i64 n))) (wrap_succ (k := k) (by omega))
    · have h : k = out.length := by simp [hol] at h; omega
      subst h
      have e : mr (.mt s) out = out ++ [s] := by simp only [mr]; rw [memb_no (not_mem_of hn)]; rfl
      rw [e]
      refine ⟨by simp [eIs]; omega, uniI _, uniI [_], ?_⟩
      exact ⟨congrArg AV.sl (snocI out s), rfl, rfl⟩
  · have hf : ¬ t.form = 1 := by simpa using h
    refine ⟨{k : Nat // k ≤ t.args.length}, fun k => { vs := [(1, .v (.sl (eIs (mrs (t.args.take k.1) out)))), (2, .box 0 (eTy t)), (6, .v (.lit (.int .i64 (k.1 : Nat))))], ow := [(1, 0, 2)] },
      fun k => t.args.length - k.1, ⟨0, Nat.zero_le _⟩, ⟨⟨rfl, rfl, rfl, trivial⟩, ⟨rfl, trivial⟩, rfl⟩, ?_⟩
    rintro ⟨k, hk⟩
    have hrm := fun h => mrs_room t out (k := k) h
    refine ⟨fun h => ?_, fun h => ?_⟩
    · have h : k < t.args.length := by simp [hlen] at h; omega
      have hrm := hrm h
      refine ⟨eTy t.args[k], by simp, by rw [t.eArgs_eq]; exact getT h, rfl, ?_⟩
      refine .inr ⟨rfl, [], [], [0, 2], _, rfl, List.nodup_nil, rfl, ih _ (List.getElem_mem h) (mrs (t.args.take k) out) (by omega), ?_⟩
      rintro _ _ _ ⟨rfl, rfl, rfl⟩
      refine ⟨⟨k + 1, h⟩, (show t.args.length - (k + 1) < t.args.length - k by omega), ⟨?_, rfl, ?_, trivial⟩, ⟨rfl, trivial⟩, rfl⟩
      · exact congrArg (fun l => SV.v (AV.sl (eIs l))) (mrs_take h).symm
      · exact congrArg (fun n => SV.v (AV.lit (Value.int .i64 n))) (wrap_succ (k := k) (by omega))
    · have h : k = t.args.length := by simp [hlen] at h; omega
      subst h
      have e : mr t out = mrs (t.args.take t.args.length) out := by
        rw [List.take_length]
        cases t <;> first | rfl | exact absurd rfl hf
      rw [e]
      exact ⟨rfl, rfl, rfl⟩

theorem rmetas_ok (N : Nat) (hN : N < 1000000) : ∀ (t : Tp) (out : List Int), t.sz ≤ N → out.length + t.sz ≤ 1000000000 → metasSays t out := by
  induction N with
  | zero => intro t _ h; have := sz_pos t; omega
  | succ N ih => exact fun t out h ho => rmetas_step N (by omega) t h out ho fun a ha out ho => ih (by omega) a out (setSz h a ha) ho

theorem rMetas_ok (t : Tp) (h : t.sz < 1000000) : ACall Tryd.prog n_fugueref04_Metas [eTy t] (.sl (eIs (mv t))) := by
  refine acall_of_wc ttok mixed Tryd.func34 rfl (by rfl) (Nat.le_of_ble_eq_true rfl) (by kernel_rfl) ?_
  refine .inr ⟨rfl, [], [], [0, 2], _, rfl, List.nodup_nil, rfl, rmetas_ok t.sz h t [] (Nat.le_refl _) (by simp; omega), ?_⟩
  rintro _ _ _ ⟨rfl, rfl, rfl⟩
  rw [mr_mv]
  exact rfl
end Go.Proofs.YtocglbflmkadeaaDoor
