/- A type with no number left (ground), and a type with all that a list of numbers and types knows, the types without numbers (Full of the document). -/
import Derived.Test.YtigifkjcghkiiaaDoorG
set_option linter.unusedSimpArgs false
set_option linter.unusedVariables false
namespace Go.Proofs.YtigifkjcghkiiaaDoor
open Go Fp
set_option maxRecDepth 10000
set_option maxHeartbeats 4000000
set_option linter.unusedVariables false
set_option linter.unusedSimpArgs false

def sI : ByteArray := ⟨#[73, 110, 116]⟩
def grd : Tp → Tp := sbt fun _ => .con sI
theorem grd_mvs (t : Tp) : mvs (grd t) = [] := by
  rw [List.eq_nil_iff_forall_not_mem]
  intro m hm
  obtain ⟨n, _, h⟩ := mem_mvs_sbt.1 hm
  simp [mvs] at h
theorem grd_good : ∀ {t : Tp}, good t → good (grd t)
  | .mt _, _ => by show _ ∈ small6; simp [small6, sI]
  | .app a b, h => ⟨grd_good h.1, grd_good h.2⟩
  | .all s a, h => ⟨h.1, grd_good h.2⟩
  | .var s, h => h
  | .con s, h => h
theorem grd_flat : ∀ {t : Tp}, flat t → flat (grd t)
  | .mt _, _ => trivial
  | .app a b, h => ⟨grd_flat h.1, grd_flat h.2⟩
  | .no, _ => trivial
  | .var s, h => trivial
  | .con s, h => trivial
theorem grd_sz : ∀ t : Tp, (grd t).sz = t.sz
  | .mt _ => rfl
  | .app a b => by have := grd_sz a; have := grd_sz b; unfold grd at *; simp only [sbt, Tp.sz]; omega
  | .all s a => by have := grd_sz a; unfold grd at *; simp only [sbt, Tp.sz]; omega
  | .no => rfl
  | .var s => rfl
  | .con s => rfl

/-- What a list knows of a number. -/
def th (K : Kn) (n : Int) : Tp := (getK K n).getD (.mt n)

theorem rebuilt {θ : Int → Tp} (t : Tp) (h : ∀ n, t ≠ .mt n) : (AV.agg [.lit (.int .i64 t.form), .lit (.int .i64 t.num), .lit (.string t.nam), .sl (eTys (t.args.map (sbt θ)))] : AV) = eTy (sbt θ t) := by
  cases t with
  | mt n => exact absurd rfl (h n)
  | _ => rfl
theorem takeM {f : Tp → Tp} {l : List Tp} {k : Nat} (h : k < l.length) : eTys ((l.take k).map f) ++ [eTy (f l[k])] = eTys ((l.take (k + 1)).map f) := by
  rw [List.take_succ_eq_append_getElem h, List.map_append]; unfold eTys; rw [List.map_append]; rfl

theorem ground_step (t : Tp) (ih : ∀ a ∈ t.args, ACall Tryd.prog n_fuguelaw09_ground [eTy a] (eTy (grd a))) : ACall Tryd.prog n_fuguelaw09_ground [eTy t] (eTy (grd t)) := by
  refine acall_of_wc ttok mixed Tryd.func19 rfl (by rfl) (Nat.le_of_ble_eq_true rfl) (by kernel_rfl) ?_
  refine ⟨fun h => ?_, fun h => ?_⟩
  · obtain ⟨n, rfl⟩ := Tp.is_mt (t := t) (by simpa using h)
    exact rfl
  have hm : ∀ n, t ≠ .mt n := fun n e => by subst e; simp [Tp.form] at h
  refine ⟨{k : Nat // k ≤ t.args.length}, fun k => { vs := [(1, .box 0 (eTy t)), (2, .box 0 (eTy .no)), (3, .v (.sl (eTys ((t.args.take k.1).map grd)))), (4, .v (.lit (.int .i64 (k.1 : Nat))))], ow := [(3, 0, 5)] },
    fun k => t.args.length - k.1, ⟨0, Nat.zero_le _⟩, ⟨⟨rfl, rfl, rfl, rfl, trivial⟩, ⟨trivial, trivial⟩, rfl⟩, ?_⟩
  rintro ⟨k, hk⟩
  have hlen : t.eArgs.length = t.args.length := by rw [t.eArgs_eq]; simp [eTys]
  have h2 := args_le t
  refine ⟨fun h => ?_, fun h => ?_⟩
  · have h : k < t.args.length := by simp [hlen] at h; omega
    refine ⟨eTy t.args[k], by simp, by rw [t.eArgs_eq]; exact getT h, rfl, ?_⟩
    refine .inl ⟨_, ih _ (List.getElem_mem h), ?_⟩
    refine ⟨by simp [eTys]; omega, uniT _, uniT [_], ?_⟩
    refine ⟨⟨k + 1, h⟩, by simp; omega, ⟨rfl, rfl, ?_, ?_, trivial⟩, ⟨rfl, trivial⟩, rfl⟩
    · exact congrArg (fun l => SV.v (AV.sl l)) (takeM h)
    · exact congrArg (fun l => SV.v (AV.lit (Value.int .i64 l))) (wrap_succ (k := k) (by omega))
  · have h : k = t.args.length := by simp [hlen] at h; omega
    subst h
    have := rebuilt (θ := fun _ => .con sI) t hm
    show AV.agg [_, _, _, AV.sl (eTys ((t.args.take t.args.length).map grd))] = _
    rw [List.take_length]; exact this

theorem ground_ok (t : Tp) : ACall Tryd.prog n_fuguelaw09_ground [eTy t] (eTy (grd t)) := by
  induction t with
  | app a b iha ihb => exact ground_step _ (by simp [Tp.args]; exact ⟨iha, ihb⟩)
  | all s a ih => exact ground_step _ (by simp [Tp.args]; exact ih)
  | _ => exact ground_step _ (by simp [Tp.args])

end Go.Proofs.YtigifkjcghkiiaaDoor

namespace Go.Proofs.YtigifkjcghkiiaaDoor
open Go Fp
set_option maxRecDepth 10000
set_option maxHeartbeats 4000000
set_option linter.unusedVariables false
set_option linter.unusedSimpArgs false

def eS (K : Kn) : AV := .agg [.sl (eIs (dom K)), .sl (eTys (K.map (·.2)))]
theorem getD' {K : Kn} {k : Nat} (h : k < K.length) : (eIs (dom K))[k]? = some (.lit (.int .i64 K[k].1)) := by simp [eIs, dom, h]
theorem getT' {K : Kn} {k : Nat} (h : k < K.length) : (eTys (K.map (·.2)))[k]? = some (eTy K[k].2) := by simp [eTys, h]
theorem getK_first {K : Kn} {n : Int} {k : Nat} (hk : k < K.length) (h : K[k].1 = n) (hb : ∀ j (hj : j < k), K[j].1 ≠ n) : getK K n = some K[k].2 := by
  induction K generalizing k with
  | nil => simp at hk
  | cons q K ih =>
    cases k with
    | zero => simp at h; unfold getK; rw [List.find?_cons_of_pos (by simpa using h)]; rfl
    | succ k =>
      have h0 := hb 0 (by omega)
      simp at h0
      unfold getK
      rw [List.find?_cons_of_neg (by simpa using h0)]
      exact ih (by simpa using hk) (by simpa using h) fun j hj => by have := hb (j + 1) (by omega); simpa using this
theorem getK_off {K : Kn} {n : Int} (hb : ∀ j (hj : j < K.length), K[j].1 ≠ n) : getK K n = none := getK_none.2 fun hn => by
  obtain ⟨q, hq, h⟩ := List.mem_map.1 hn
  obtain ⟨j, hj, rfl⟩ := List.getElem_of_mem hq
  exact hb j hj h

theorem Full_step {K : Kn} (hK : K.length < 1000000) (t : Tp) (hg : ∀ q ∈ K, sbt (th K) q.2 = q.2)
    (hq : ∀ n, t = .mt n → ∀ q ∈ K, ACall Tryd.prog n_fugueref09_Full [eS K, eTy q.2] (eTy q.2))
    (ih : ∀ a ∈ t.args, ACall Tryd.prog n_fugueref09_Full [eS K, eTy a] (eTy (sbt (th K) a))) : ACall Tryd.prog n_fugueref09_Full [eS K, eTy t] (eTy (sbt (th K) t)) := by
  have fin : (∀ a, t = .mt a → th K a = .mt a) → (AV.agg [.lit (.int .i64 t.form), .lit (.int .i64 t.num), .lit (.string t.nam), .sl (eTys (t.args.map (sbt (th K))))] : AV) = eTy (sbt (th K) t) := fun h => by
    by_cases hm : ∃ n, t = .mt n
    · obtain ⟨n, rfl⟩ := hm
      rw [show sbt (th K) (.mt n) = .mt n from h n rfl]; rfl
    · exact rebuilt t fun n e => hm ⟨n, e⟩
  refine acall_of_wc ttok mixed Tryd.func20 rfl (by rfl) (Nat.le_of_ble_eq_true rfl) (by kernel_rfl) ?_
  refine ⟨{k : Nat // k ≤ K.length ∧ ∀ n, t = .mt n → ∀ j (hj : j < K.length), j < k → K[j].1 ≠ n}, fun k => { vs := [(2, .box 0 (eS K)), (3, .box 0 (eTy t)), (4, .box 0 (eTy .no)), (5, .v (.lit (.int .i64 (k.1 : Nat))))] },
    fun k => K.length - k.1, ⟨0, Nat.zero_le _, fun _ _ _ _ h => by omega⟩, ⟨⟨rfl, rfl, rfl, rfl, trivial⟩, trivial, rfl⟩, ?_⟩
  rintro ⟨k, hk, hb⟩
  have hlen : (eIs (dom K)).length = K.length := by simp [eIs, dom]
  refine ⟨fun h => ?_, fun h => ?_⟩
  · have hl : k < K.length := by simp [hlen] at h; omega
    refine ⟨fun h1 => ?_, fun h1 => ?_⟩
    · obtain ⟨n, rfl⟩ := Tp.is_mt (t := t) (by simpa using h1)
      refine ⟨_, by simp, getD' hl, rfl, ?_⟩
      refine ⟨fun h2 => ?_, fun h2 => ?_⟩
      · have h2 : K[k].1 = n := of_decide_eq_true h2
        have hg1 : getK K n = some K[k].2 := getK_first hl h2 fun j hj => hb n rfl j (by omega) hj
        have e1 : sbt (th K) (.mt n) = K[k].2 := by show th K n = _; unfold th; rw [hg1]; rfl
        rw [e1]
        refine ⟨_, by simp, getT' hl, rfl, ?_⟩
        refine .inl ⟨_, hq n rfl _ (List.getElem_mem hl), ?_⟩
        exact rfl
      · have h2 : K[k].1 ≠ n := of_decide_eq_false h2
        refine ⟨⟨k + 1, hl, ?_⟩, by simp; omega, ⟨rfl, rfl, rfl, ?_, trivial⟩, trivial, rfl⟩
        · intro m hm j hj hjk
          injection hm with hm; subst hm
          rcases Nat.lt_succ_iff_lt_or_eq.1 hjk with q | q
          · exact hb n rfl j hj q
          · subst q; exact h2
        · exact congrArg (fun l => SV.v (AV.lit (Value.int .i64 l))) (wrap_succ (k := k) (by omega))
    · refine ⟨⟨k + 1, hl, ?_⟩, by simp; omega, ⟨rfl, rfl, rfl, ?_, trivial⟩, trivial, rfl⟩
      · intro m hm; subst hm; simp [Tp.form] at h1
      · exact congrArg (fun l => SV.v (AV.lit (Value.int .i64 l))) (wrap_succ (k := k) (by omega))
  · have h : k = K.length := by simp [hlen] at h; omega
    subst h
    have hno : ∀ n, t = .mt n → th K n = .mt n := fun n e => by
      unfold th; rw [getK_off fun j hj => hb n e j hj hj]; rfl
    have fin := fin hno
    refine ⟨{k : Nat // k ≤ t.args.length}, fun k => { vs := [(2, .box 0 (eS K)), (3, .box 0 (eTy t)), (4, .box 0 (eTy .no)), (6, .v (.sl (eTys ((t.args.take k.1).map (sbt (th K)))))), (7, .v (.lit (.int .i64 (k.1 : Nat))))], ow := [(6, 0, 5)] },
      fun k => t.args.length - k.1, ⟨0, Nat.zero_le _⟩, ⟨⟨rfl, rfl, rfl, rfl, rfl, trivial⟩, ⟨trivial, trivial⟩, rfl⟩, ?_⟩
    rintro ⟨k, hk⟩
    have hlen : t.eArgs.length = t.args.length := by rw [t.eArgs_eq]; simp [eTys]
    have h2 := args_le t
    refine ⟨fun h => ?_, fun h => ?_⟩
    · have h : k < t.args.length := by simp [hlen] at h; omega
      refine ⟨eTy t.args[k], by simp, by rw [t.eArgs_eq]; exact getT h, rfl, ?_⟩
      refine .inl ⟨_, ih _ (List.getElem_mem h), ?_⟩
      refine ⟨by simp [eTys]; omega, uniT _, uniT [_], ?_⟩
      refine ⟨⟨k + 1, h⟩, by simp; omega, ⟨rfl, rfl, rfl, ?_, ?_, trivial⟩, ⟨rfl, trivial⟩, rfl⟩
      · exact congrArg (fun l => SV.v (AV.sl l)) (takeM h)
      · exact congrArg (fun l => SV.v (AV.lit (Value.int .i64 l))) (wrap_succ (k := k) (by omega))
    · have h : k = t.args.length := by simp [hlen] at h; omega
      subst h
      show AV.agg [_, _, _, AV.sl (eTys ((t.args.take t.args.length).map (sbt (th K))))] = _
      rw [List.take_length]; exact fin

theorem Full_ground {K : Kn} (hK : K.length < 1000000) (hg : ∀ q ∈ K, mvs q.2 = []) (u : Tp) (hu : mvs u = []) : ACall Tryd.prog n_fugueref09_Full [eS K, eTy u] (eTy (sbt (th K) u)) := by
  have hg' : ∀ q ∈ K, sbt (th K) q.2 = q.2 := fun q hq => sbt_none fun n hn => by rw [hg q hq] at hn; simp at hn
  induction u with
  | mt n => simp [mvs] at hu
  | app a b iha ihb =>
    simp [mvs] at hu
    exact Full_step hK _ hg' (fun n e => by cases e) (by simp [Tp.args]; exact ⟨iha hu.1, ihb hu.2⟩)
  | all s a ih => exact Full_step hK _ hg' (fun n e => by cases e) (by simp [Tp.args]; exact ih hu)
  | _ => exact Full_step hK _ hg' (fun n e => by cases e) (by simp [Tp.args])
theorem Full_ok {K : Kn} (hK : K.length < 1000000) (hg : ∀ q ∈ K, mvs q.2 = []) (t : Tp) : ACall Tryd.prog n_fugueref09_Full [eS K, eTy t] (eTy (sbt (th K) t)) := by
  have hg' : ∀ q ∈ K, sbt (th K) q.2 = q.2 := fun q hq => sbt_none fun n hn => by rw [hg q hq] at hn; simp at hn
  have hq : ∀ q ∈ K, ACall Tryd.prog n_fugueref09_Full [eS K, eTy q.2] (eTy q.2) := fun q h => by
    have := Full_ground hK hg q.2 (hg q h)
    rwa [hg' q h] at this
  induction t with
  | app a b iha ihb => exact Full_step hK _ hg' (fun n _ => hq) (by simp [Tp.args]; exact ⟨iha, ihb⟩)
  | all s a ih => exact Full_step hK _ hg' (fun n _ => hq) (by simp [Tp.args]; exact ih)
  | _ => exact Full_step hK _ hg' (fun n _ => hq) (by simp [Tp.args])
end Go.Proofs.YtigifkjcghkiiaaDoor

namespace Go.Proofs.YtigifkjcghkiiaaDoor
open Go Fp
set_option maxRecDepth 10000
set_option maxHeartbeats 4000000
set_option linter.unusedVariables false
set_option linter.unusedSimpArgs false

theorem getK_at {K : Kn} {n : Int} {u : Tp} (h : getK K n = some u) : ∃ k, ∃ hk : k < K.length, K[k].1 = n ∧ K[k].2 = u ∧ ∀ j (hj : j < k), K[j].1 ≠ n := by
  induction K with
  | nil => cases h
  | cons q K ih =>
    unfold getK at h
    by_cases e : q.1 = n
    · rw [List.find?_cons_of_pos (by simpa using e)] at h
      injection h with h
      exact ⟨0, by simp, e, h, fun j hj => by omega⟩
    · rw [List.find?_cons_of_neg (by simpa using e)] at h
      obtain ⟨k, hk, h1, h2, h3⟩ := ih h
      refine ⟨k + 1, by simpa using hk, by simpa using h1, by simpa using h2, fun j hj => ?_⟩
      cases j with
      | zero => simpa using e
      | succ j => have := h3 j (by omega); simpa using this

theorem Full_known {K : Kn} (hK : K.length < 1000000) {n : Int} {u : Tp} (hu : getK K n = some u) {y : Tp} (hc : ACall Tryd.prog n_fugueref09_Full [eS K, eTy u] (eTy y)) : ACall Tryd.prog n_fugueref09_Full [eS K, eTy (.mt n)] (eTy y) := by
  obtain ⟨p, hp, hp1, hp2, hp3⟩ := getK_at hu
  refine acall_of_wc ttok mixed Tryd.func20 rfl (by rfl) (Nat.le_of_ble_eq_true rfl) (by kernel_rfl) ?_
  refine ⟨{k : Nat // k ≤ p}, fun k => { vs := [(2, .box 0 (eS K)), (3, .box 0 (eTy (.mt n))), (4, .box 0 (eTy .no)), (5, .v (.lit (.int .i64 (k.1 : Nat))))] },
    fun k => p - k.1, ⟨0, Nat.zero_le _⟩, ⟨⟨rfl, rfl, rfl, rfl, trivial⟩, trivial, rfl⟩, ?_⟩
  rintro ⟨k, hk⟩
  have hlen : (eIs (dom K)).length = K.length := by simp [eIs, dom]
  have hkl : k < K.length := by omega
  refine ⟨fun h => ?_, fun h => ?_⟩
  · refine ⟨fun h1 => ?_, fun h1 => absurd h1 (by simp [Tp.form])⟩
    refine ⟨_, by simp, getD' hkl, rfl, ?_⟩
    refine ⟨fun h2 => ?_, fun h2 => ?_⟩
    · have h2 : K[k].1 = n := of_decide_eq_true h2
      have hkp : k = p := by
        rcases Nat.lt_or_ge k p with q | q
        · exact absurd h2 (hp3 k q)
        · omega
      subst hkp
      refine ⟨_, by simp, getT' hkl, rfl, ?_⟩
      rw [hp2]
      refine .inl ⟨_, hc, ?_⟩
      exact rfl
    · have h2 : K[k].1 ≠ n := of_decide_eq_false h2
      have hkp : k ≠ p := fun e => by subst e; exact h2 hp1
      refine ⟨⟨k + 1, by omega⟩, by simp; omega, ⟨rfl, rfl, rfl, ?_, trivial⟩, trivial, rfl⟩
      exact congrArg (fun l => SV.v (AV.lit (Value.int .i64 l))) (wrap_succ (k := k) (by omega))
  · exfalso
    simp [hlen] at h; omega
theorem Full_open {K : Kn} (hK : K.length < 1000000) (t : Tp) (hno : ∀ n, t = .mt n → getK K n = none) (f : Tp → Tp)
    (ih : ∀ a ∈ t.args, ACall Tryd.prog n_fugueref09_Full [eS K, eTy a] (eTy (f a))) : ACall Tryd.prog n_fugueref09_Full [eS K, eTy t] (.agg [.lit (.int .i64 t.form), .lit (.int .i64 t.num), .lit (.string t.nam), .sl (eTys (t.args.map f))]) := by
  have hb : ∀ n, t = .mt n → ∀ k (hk : k < K.length), K[k].1 ≠ n := fun n e k hk h => by
    have := getK_none.1 (hno n e)
    exact this (List.mem_map.2 ⟨K[k], List.getElem_mem hk, h⟩)
  refine acall_of_wc ttok mixed Tryd.func20 rfl (by rfl) (Nat.le_of_ble_eq_true rfl) (by kernel_rfl) ?_
  refine ⟨{k : Nat // k ≤ K.length}, fun k => { vs := [(2, .box 0 (eS K)), (3, .box 0 (eTy t)), (4, .box 0 (eTy .no)), (5, .v (.lit (.int .i64 (k.1 : Nat))))] },
    fun k => K.length - k.1, ⟨0, Nat.zero_le _⟩, ⟨⟨rfl, rfl, rfl, rfl, trivial⟩, trivial, rfl⟩, ?_⟩
  rintro ⟨k, hk⟩
  have hlen : (eIs (dom K)).length = K.length := by simp [eIs, dom]
  refine ⟨fun h => ?_, fun h => ?_⟩
  · have hl : k < K.length := by simp [hlen] at h; omega
    have hw := wrap_succ (k := k) (by omega)
    refine ⟨fun h1 => ?_, fun h1 => ?_⟩
    · refine ⟨_, by simp, getD' hl, rfl, ?_⟩
      refine ⟨fun h2 => ?_, fun h2 => ?_⟩
      · exfalso
        obtain ⟨n, rfl⟩ := Tp.is_mt (t := t) (by simpa using h1)
        exact hb n rfl k hl (of_decide_eq_true h2)
      · refine ⟨⟨k + 1, hl⟩, by simp; omega, ⟨rfl, rfl, rfl, ?_, trivial⟩, trivial, rfl⟩
        exact congrArg (fun l => SV.v (AV.lit (Value.int .i64 l))) hw
    · refine ⟨⟨k + 1, hl⟩, by simp; omega, ⟨rfl, rfl, rfl, ?_, trivial⟩, trivial, rfl⟩
      exact congrArg (fun l => SV.v (AV.lit (Value.int .i64 l))) hw
  · refine ⟨{k : Nat // k ≤ t.args.length}, fun k => { vs := [(2, .box 0 (eS K)), (3, .box 0 (eTy t)), (4, .box 0 (eTy .no)), (6, .v (.sl (eTys ((t.args.take k.1).map f)))), (7, .v (.lit (.int .i64 (k.1 : Nat))))], ow := [(6, 0, 5)] },
      fun k => t.args.length - k.1, ⟨0, Nat.zero_le _⟩, ⟨⟨rfl, rfl, rfl, rfl, rfl, trivial⟩, ⟨trivial, trivial⟩, rfl⟩, ?_⟩
    rintro ⟨k, hk⟩
    have hlen : t.eArgs.length = t.args.length := by rw [t.eArgs_eq]; simp [eTys]
    have h2 := args_le t
    refine ⟨fun h => ?_, fun h => ?_⟩
    · have h : k < t.args.length := by simp [hlen] at h; omega
      refine ⟨eTy t.args[k], by simp, by rw [t.eArgs_eq]; exact getT h, rfl, ?_⟩
      refine .inl ⟨_, ih _ (List.getElem_mem h), ?_⟩
      refine ⟨by simp [eTys]; omega, uniT _, uniT [_], ?_⟩
      refine ⟨⟨k + 1, h⟩, by simp; omega, ⟨rfl, rfl, rfl, ?_, ?_, trivial⟩, ⟨rfl, trivial⟩, rfl⟩
      · exact congrArg (fun l => SV.v (AV.sl l)) (takeM h)
      · exact congrArg (fun l => SV.v (AV.lit (Value.int .i64 l))) (wrap_succ (k := k) (by omega))
    · have h : k = t.args.length := by simp [hlen] at h; omega
      subst h
      show AV.agg [_, _, _, AV.sl (eTys ((t.args.take t.args.length).map f))] = _
      rw [List.take_length]
theorem Full_ap {K : Kn} (hK : K.length < 1000000) : ∀ (k : Nat) (t y : Tp), ap K k t = some y → ACall Tryd.prog n_fugueref09_Full [eS K, eTy t] (eTy y) := fun k => by
  induction k with
  | zero => intro t y h; simp [ap] at h
  | succ k ih =>
    intro t y h
    cases t with
    | mt n =>
      rw [ap] at h
      split at h
      · rename_i hn
        injection h with h; subst h
        exact Full_open hK (.mt n) (fun m e => by injection e with e; subst e; exact hn) id (by simp [Tp.args])
      · rename_i u hu
        exact Full_known hK hu (ih u y h)
    | app a b =>
      rw [ap] at h
      split at h
      · rename_i a' b' ha hb
        injection h with h; subst h
        have := Full_open hK (.app a b) (fun m e => by cases e) (fun x => (ap K k x).getD x) (fun x hx => by
          simp [Tp.args] at hx
          rcases hx with rfl | rfl
          · rw [ha]; exact ih _ _ ha
          · rw [hb]; exact ih _ _ hb)
        simp only [Tp.args, List.map_cons, List.map_nil, ha, hb, Option.getD_some] at this
        exact this
      · cases h
    | all s a =>
      rw [ap] at h
      obtain ⟨a', ha, rfl⟩ := Option.map_eq_some_iff.1 h
      have := Full_open hK (.all s a) (fun m e => by cases e) (fun x => (ap K k x).getD x) (fun x hx => by
        simp [Tp.args] at hx
        subst hx
        rw [ha]; exact ih _ _ ha)
      simp only [Tp.args, List.map_cons, List.map_nil, ha, Option.getD_some] at this
      exact this
    | no => injection (show some Tp.no = some y from h) with h; subst h; exact Full_open hK .no (fun m e => by cases e) id (by simp [Tp.args])
    | var s => injection (show some (Tp.var s) = some y from h) with h; subst h; exact Full_open hK (.var s) (fun m e => by cases e) id (by simp [Tp.args])
    | con s => injection (show some (Tp.con s) = some y from h) with h; subst h; exact Full_open hK (.con s) (fun m e => by cases e) id (by simp [Tp.args])
theorem FullG_ok {K : Kn} (hK : K.length < 1000000) (h : Ok K) (t : Tp) : ACall Tryd.prog n_fugueref09_Full [eS K, eTy t] (eTy (fl K t)) := by
  obtain ⟨k, hk⟩ := ap_fl h t
  exact Full_ap hK k t _ hk
end Go.Proofs.YtigifkjcghkiiaaDoor

namespace Go.Proofs.YtigifkjcghkiiaaDoor
open Go Fp
set_option maxRecDepth 10000
set_option maxHeartbeats 16000000
set_option linter.unusedVariables false
set_option linter.unusedSimpArgs false

theorem rsize_step2 (t : Tp) (hs : t.sz < 4000000000000000000) (ih : ∀ a ∈ t.args, ACall Tryd.prog n_fugueref04_Size [eTy a] (.lit (.int .i64 (size a : Nat)))) : ACall Tryd.prog n_fugueref04_Size [eTy t] (.lit (.int .i64 (size t : Nat))) := by
  have hlen : t.eArgs.length = t.args.length := lenT t
  have h2 := args_le t
  obtain ⟨n, hn, hc⟩ : ∃ n, sums n t.args = size t ∧ ((t.form = 4 ∧ n = 0) ∨ (¬ t.form = 4 ∧ n = 1)) := by
    by_cases h : t.form = 4
    · exact ⟨0, by rw [← sums_size, if_pos h], .inl ⟨h, rfl⟩⟩
    · exact ⟨1, by rw [← sums_size, if_neg h], .inr ⟨h, rfl⟩⟩
  have hr := fun k h => sums_room t n (k := k) h
  have hn1 : n ≤ 1 := by omega
  refine acall_of_wc ttok mixed Tryd.func21 rfl (by rfl) (Nat.le_of_ble_eq_true rfl) (by kernel_rfl) ?_
  rw [← hn]
  rcases hc with ⟨h4, rfl⟩ | ⟨h4, rfl⟩
  refine ⟨fun h => absurd h4 (by simpa using h), fun _ => ?_⟩
  rotate_left
  refine ⟨fun _ => ?_, fun h => absurd (by simpa using h) h4⟩
  all_goals
    refine ⟨{k : Nat // k ≤ t.args.length}, fun k => { vs := [(1, .box 0 (eTy t)), (3, .v (.lit (.int .i64 (sums _ (t.args.take k.1) : Nat)))), (4, .v (.lit (.int .i64 (k.1 : Nat))))], ow := [] },
      fun k => t.args.length - k.1, ⟨0, Nat.zero_le _⟩, ⟨⟨rfl, rfl, rfl, trivial⟩, trivial, rfl⟩, ?_⟩
    rintro ⟨k, hk⟩
    refine ⟨fun h => ?_, fun h => ?_⟩
    · have h : k < t.args.length := by simp [hlen] at h; omega
      have hr := hr k h
      refine ⟨eTy t.args[k], by simp, by rw [t.eArgs_eq]; exact getT h, rfl, ?_⟩
      refine .inl ⟨_, ih _ (List.getElem_mem h), ?_⟩
      refine ⟨⟨k + 1, h⟩, (show t.args.length - (k + 1) < t.args.length - k by omega), ⟨rfl, ?_, ?_, trivial⟩, trivial, rfl⟩
      · rw [sums_take h]
        refine congrArg (fun n => SV.v (AV.lit (Value.int .i64 n))) ?_
        exact Eq.trans (congrArg IntKind.i64.wrap (Int.natCast_add _ _).symm) (wrap_nat (Nat.lt_of_le_of_lt hr (by omega)))
      · exact congrArg (fun n => SV.v (AV.lit (Value.int .i64 n))) (wrap_succ (k := k) (by omega))
    · have h : k = t.args.length := by simp [hlen] at h; omega
      subst h
      rw [List.take_length]
      exact rfl
theorem rsize_big (t : Tp) (hs : t.sz < 4000000000000000000) : ACall Tryd.prog n_fugueref04_Size [eTy t] (.lit (.int .i64 (size t : Nat))) := by
  induction t with
  | app a b iha ihb =>
    simp only [Tp.sz] at hs
    refine rsize_step2 _ (by simp only [Tp.sz]; omega) fun x hx => ?_
    simp [Tp.args] at hx
    rcases hx with rfl | rfl
    · exact iha (by omega)
    · exact ihb (by omega)
  | all s a ih =>
    simp only [Tp.sz] at hs
    refine rsize_step2 _ (by simp only [Tp.sz]; omega) fun x hx => ?_
    simp [Tp.args] at hx
    subst hx
    exact ih (by omega)
  | _ => exact rsize_step2 _ hs (by simp [Tp.args])
theorem mem_mv {n : Int} : ∀ t : Tp, n ∈ mv t ↔ n ∈ mvs t
  | .mt m => by simp [mv, mvs]
  | .app a b => by simp [mv, mvs, mem_insAll, no, mem_mv a, mem_mv b]
  | .all s a => by simp [mv, mvs, mem_insAll, no, mem_mv a]
  | .no => by simp [mv, mvs]
  | .var _ => by simp [mv, mvs]
  | .con _ => by simp [mv, mvs]
theorem mv_len (t : Tp) : (mv t).length ≤ t.sz := by
  induction t with
  | mt n => simp [mv, Tp.sz]
  | app a b iha ihb =>
    have h1 := insAll_length no (mv a) []
    have h2 := insAll_length no (mv b) (insAll no [] (mv a))
    simp only [mv, Tp.sz, List.length_nil] at *; omega
  | all s a ih =>
    have h1 := insAll_length no (mv a) []
    simp only [mv, Tp.sz, List.length_nil] at *; omega
  | _ => simp [mv]
theorem in_ok (n : Int) (t : Tp) (h : t.sz < 1000000) : ACall Tryd.prog n_fugueref09_in [.lit (.int .i64 n), eTy t] (.sb (decide (n ∈ mvs t))) := by
  have hlen : (eIs (mv t)).length = (mv t).length := by simp [eIs]
  have hml := mv_len t
  have hd : decide (n ∈ mvs t) = decide (n ∈ mv t) := decide_eq_decide.2 (mem_mv t).symm
  rw [hd]
  refine acall_of_wcx ttok mixed Tryd.func75 rfl (by rfl) (Nat.le_of_ble_eq_true rfl) (by kernel_rfl) ?_
  refine .inl ⟨_, rMetas_ok t h, ?_⟩
  refine ⟨{k : Nat // k ≤ (mv t).length ∧ ∀ j (hj : j < (mv t).length), j < k → (mv t)[j] ≠ n}, fun k => { vs := [(0, .v (.lit (.int .i64 n))), (5, .v (.sl (eIs (mv t)))), (6, .v (.lit (.int .i64 (k.1 : Nat))))] },
    fun k => (mv t).length - k.1, ⟨0, Nat.zero_le _, fun _ _ h => by omega⟩, ⟨⟨rfl, rfl, rfl, trivial⟩, trivial, rfl⟩, ?_⟩
  rintro ⟨k, hk, hb⟩
  refine ⟨fun h => ?_, fun h => ?_⟩
  · have hl : k < (mv t).length := by simp [hlen] at h; omega
    refine ⟨_, by omega, getI hl, rfl, ?_⟩
    refine ⟨fun h2 => ?_, fun h2 => ?_⟩
    · have h2 : (mv t)[k] = n := of_decide_eq_true h2
      have hmem : n ∈ mv t := by rw [← h2]; exact List.getElem_mem hl
      rw [decide_eq_true (p := n ∈ mv t) hmem]
      exact rfl
    · have h2 : (mv t)[k] ≠ n := of_decide_eq_false h2
      refine ⟨⟨k + 1, hl, fun j hj hjk => ?_⟩, by simp; omega, ⟨rfl, rfl, ?_, trivial⟩, trivial, rfl⟩
      · rcases Nat.lt_succ_iff_lt_or_eq.1 hjk with q | q
        · exact hb j hj q
        · subst q; exact h2
      · exact congrArg (fun n => SV.v (AV.lit (Value.int .i64 n))) (wrap_succ (k := k) (by omega))
  · have h : k = (mv t).length := by simp [hlen] at h; omega
    subst h
    rw [decide_eq_false (p := n ∈ mv t) (fun hm => by obtain ⟨j, hj, e⟩ := List.getElem_of_mem hm; exact hb j hj hj e)]
    exact rfl

theorem size_t : ∀ t : Tp, size t = tsz t
  | .app a b => by rw [size, tsz, size_t a, size_t b]
  | .all _ a => by rw [size, tsz, size_t a]
  | .no => rfl
  | .mt _ => rfl
  | .var _ => rfl
  | .con _ => rfl
abbrev eR (K : Kn) (e : Int) : AV := .tup [eS K, .lit (.int .i64 e)]
theorem know_in {K : Kn} {n : Int} {t : Tp} (hz : t.sz < 1000000) (h : n ∈ mvs t) : ACall Tryd.prog n_fugueref09_know [eS K, .lit (.int .i64 n), eTy t] (eR K 32) := by
  have hI := in_ok n t hz
  rw [decide_eq_true (p := n ∈ mvs t) h] at hI
  refine acall_of_wcx ttok mixed Tryd.func60 rfl (by rfl) (Nat.le_of_ble_eq_true rfl) (by kernel_rfl) ?_
  refine .inl ⟨_, hI, ?_⟩
  refine ⟨fun hbs => ?_, fun hbs => ?_⟩ <;> first | (exfalso; revert hbs; (simp); done) | skip
  exact rfl
theorem greatF_iff {K : Kn} (hK : Ok K) : greatF K = true ↔ ∃ k, ∃ hk : k < K.length, 500 < size (fl K K[k].2) := by
  unfold greatF
  rw [List.any_eq_true]
  constructor
  · rintro ⟨q, hq, h⟩
    obtain ⟨k, hk, rfl⟩ := List.getElem_of_mem hq
    have h := of_decide_eq_true h
    unfold szc at h
    have hsg : sg K K[k].1 = fl K K[k].2 := sg_known hK K[k].1 K[k].2 hq
    rw [fl_mt, hsg, ← size_t] at h
    exact ⟨k, hk, by omega⟩
  · rintro ⟨k, hk, h⟩
    refine ⟨K[k], List.getElem_mem hk, decide_eq_true ?_⟩
    unfold szc
    have hsg : sg K K[k].1 = fl K K[k].2 := sg_known hK K[k].1 K[k].2 (List.getElem_mem hk)
    rw [fl_mt, hsg, ← size_t]
    omega
theorem know_off {K : Kn} {n : Int} {t : Tp} (hz : t.sz < 1000000) (h : n ∉ mvs t) (hok : Ok (K ++ [(n, t)])) (hl : K.length < 900000) (hs : ∀ q ∈ K ++ [(n, t)], (fl (K ++ [(n, t)]) q.2).sz < 4000000000000000000) :
    ACall Tryd.prog n_fugueref09_know [eS K, .lit (.int .i64 n), eTy t] (if greatF (K ++ [(n, t)]) = true then eR K 39 else eR (K ++ [(n, t)]) 0) := by
  have hI := in_ok n t hz
  rw [decide_eq_false (p := n ∈ mvs t) h] at hI
  have hG := greatF_iff hok
  obtain ⟨K', hK'⟩ : ∃ K', K' = K ++ [(n, t)] := ⟨_, rfl⟩
  have hK'l : K'.length = K.length + 1 := by rw [hK']; simp
  have e1 : eIs (dom K') = eIs (dom K) ++ [.lit (.int .i64 n)] := by rw [hK']; simp [eIs, dom]
  have e2 : eTys (K'.map (·.2)) = eTys (K.map (·.2)) ++ [eTy t] := by rw [hK']; simp [eTys]
  rw [← hK'] at hok hs hG ⊢
  have hlen : (eIs (dom K')).length = K'.length := by simp [eIs, dom]
  have hF := fun x => FullG_ok (by omega) hok x
  refine acall_of_wcx ttok mixed Tryd.func60 rfl (by rfl) (Nat.le_of_ble_eq_true rfl) (by kernel_rfl) ?_
  refine .inl ⟨_, hI, ?_⟩
  refine ⟨fun hbs => ?_, fun hbs => ?_⟩ <;> first | (exfalso; revert hbs; (simp); done) | skip
  refine ⟨by simp [eIs, dom]; omega, uniI [], uniI _, ?_⟩
  refine ⟨by simp [eTys]; omega, uniT [], uniT _, ?_⟩
  refine ⟨by simp [eIs, dom]; omega, uniI _, uniI [_], ?_⟩
  refine ⟨by simp [eTys]; omega, uniT _, uniT [_], ?_⟩
  refine ⟨{k : Nat // k ≤ K'.length ∧ ∀ j (hj : j < K'.length), j < k → ¬ 500 < size (fl K' K'[j].2)}, fun k => { vs := [(3, .box 0 (eS K)), (6, .box 0 (eS [])), (8, .box 0 (eS K')), (9, .v (.lit (.int .i64 (k.1 : Nat))))] },
    fun k => K'.length - k.1, ⟨0, Nat.zero_le _, fun _ _ h => by omega⟩, ⟨⟨rfl, rfl, ?_, rfl, trivial⟩, trivial, rfl⟩, ?_⟩
  · have e3 : SV.box 0 (AV.agg [.sl (eIs (dom K) ++ [.lit (.int .i64 n)]), .sl (eTys (K.map (·.2)) ++ [eTy t])]) = SV.box 0 (eS K') := by rw [← e1, ← e2]; rfl
    exact e3
  rintro ⟨k, hk, hb⟩
  refine ⟨fun h => ?_, fun h => ?_⟩
  · have hl : k < K'.length := by simp [hlen] at h; omega
    have hsz := rsize_big (fl K' K'[k].2) (hs _ (List.getElem_mem hl))
    refine ⟨_, by omega, getT' hl, rfl, ?_⟩
    refine .inl ⟨_, hF _, ?_⟩
    refine .inl ⟨_, hsz, ?_⟩
    refine ⟨by kernel_rfl, ?_⟩
    by_cases hg : 500 < size (fl K' K'[k].2)
    · refine ⟨fun hbs => ?_, fun hbs => ?_⟩ <;> first | (exfalso; revert hbs; (simp; omega); done) | skip
      rw [if_pos (hG.2 ⟨k, hl, hg⟩)]
      exact rfl
    · refine ⟨fun hbs => ?_, fun hbs => ?_⟩ <;> first | (exfalso; revert hbs; (simp; omega); done) | skip
      refine ⟨⟨k + 1, hl, fun j hj hjk => ?_⟩, by simp; omega, ⟨rfl, rfl, rfl, ?_, trivial⟩, trivial, rfl⟩
      · rcases Nat.lt_succ_iff_lt_or_eq.1 hjk with q | q
        · exact hb j hj q
        · subst q; exact hg
      · exact congrArg (fun n => SV.v (AV.lit (Value.int .i64 n))) (wrap_succ (k := k) (by omega))
  · have h : k = K'.length := by simp [hlen] at h; omega
    subst h
    rw [if_neg (fun hg => by obtain ⟨j, hj, h⟩ := hG.1 hg; exact hb j hj hj h)]
    exact rfl
end Go.Proofs.YtigifkjcghkiiaaDoor
