/- A type with no number left (ground), and a type with all that a list of numbers and types knows, the types without numbers (Full of the document). -/
import Derived.Test.YtigifkjcghkiiaaDoorG
import Derived.Test.YtigifkjcghkiiaaDoorFpE
set_option linter.unusedSimpArgs false
set_option linter.unusedVariables false
namespace Go.Proofs.YtigifkjcghkiiaaDoor
open Go Fp
set_option maxRecDepth 10000
set_option maxHeartbeats 4000000
set_option linter.unusedVariables false
set_option linter.unusedSimpArgs false

def sI : ByteArray := ⟨#[73, 110, 116]⟩
def grd : Tp → Tp := sbt fun _ => .con sI
theorem grd_mvs (t : Tp) : mvs (grd t) = [] := by
  rw [List.eq_nil_iff_forall_not_mem]
  intro m hm
  obtain ⟨n, _, h⟩ := mem_mvs_sbt.1 hm
  simp [mvs] at h
theorem grd_good : ∀ {t : Tp}, good t → good (grd t)
  | .mt _, _ => by show _ ∈ small6; simp [small6, sI]
  | .app a b, h => ⟨grd_good h.1, grd_good h.2⟩
  | .all s a, h => ⟨h.1, grd_good h.2⟩
  | .var s, h => h
  | .con s, h => h
theorem grd_flat : ∀ {t : Tp}, flat t → flat (grd t)
  | .mt _, _ => trivial
  | .app a b, h => ⟨grd_flat h.1, grd_flat h.2⟩
  | .no, _ => trivial
  | .var s, h => trivial
  | .con s, h => trivial
theorem grd_sz : ∀ t : Tp, (grd t).sz = t.sz
  | .mt _ => rfl
  | .app a b => by have := grd_sz a; have := grd_sz b; unfold grd at *; simp only [sbt, Tp.sz]; omega
  | .all s a => by have := grd_sz a; unfold grd at *; simp only [sbt, Tp.sz]; omega
  | .no => rfl
  | .var s => rfl
  | .con s => rfl

/-- What a list knows of a number. -/
def th (K : Kn) (n : Int) : Tp := (getK K n).getD (.mt n)

theorem rebuilt {θ : Int → Tp} (t : Tp) (h : ∀ n, t ≠ .mt n) : (AV.agg [.lit (.int .i64 t.form), .lit (.int .i64 t.num), .lit (.string t.nam), .sl (eTys (t.args.map (sbt θ)))] : AV) = eTy (sbt θ t) := by
  cases t with
  | mt n => exact absurd rfl (h n)
  | _ => rfl
theorem takeM {f : Tp → Tp} {l : List Tp} {k : Nat} (h : k < l.length) : eTys ((l.take k).map f) ++ [eTy (f l[k])] = eTys ((l.take (k + 1)).map f) := by
  rw [List.take_succ_eq_append_getElem h, List.map_append]; unfold eTys; rw [List.map_append]; rfl

theorem ground_step (t : Tp) (ih : ∀ a ∈ t.args, ACall Tryd.prog n_fuguelaw09_ground [eTy a] (eTy (grd a))) : ACall Tryd.prog n_fuguelaw09_ground [eTy t] (eTy (grd t)) := by
  refine acall_of_wc ttok mixed Tryd.func19 rfl (by rfl) (Nat.le_of_ble_eq_true rfl) (by kernel_rfl) ?_
  refine ⟨fun h => ?_, fun h => ?_⟩
  · obtain ⟨n, rfl⟩ := Tp.is_mt (t := t) (by simpa using h)
    exact rfl
  have hm : ∀ n, t ≠ .mt n := fun n e => by subst e; simp [Tp.form] at h
  refine ⟨{k : Nat // k ≤ t.args.length}, fun k => { vs := [(1, .box 0 (eTy t)), (2, .box 0 (eTy .no)), (3, .v (.sl (eTys ((t.args.take k.1).map grd)))), (4, .v (.lit (.int .i64 (k.1 : Nat))))], ow := [(3, 0, 5)] },
    fun k => t.args.length - k.1, ⟨0, Nat.zero_le _⟩, ⟨⟨rfl, rfl, rfl, rfl, trivial⟩, ⟨trivial, trivial⟩, rfl⟩, ?_⟩
  rintro ⟨k, hk⟩
  have hlen : t.eArgs.length = t.args.length := by rw [t.eArgs_eq]; simp [eTys]
  have h2 := args_le t
  refine ⟨fun h => ?_, fun h => ?_⟩
  · have h : k < t.args.length := by simp [hlen] at h; omega
    refine ⟨eTy t.args[k], by simp, by rw [t.eArgs_eq]; exact getT h, rfl, ?_⟩
    refine .inl ⟨_, ih _ (List.getElem_mem h), ?_⟩
    refine ⟨by simp [eTys]; omega, uniT _, uniT [_], ?_⟩
    refine ⟨⟨k + 1, h⟩, by simp; omega, ⟨rfl, rfl, ?_, ?_, trivial⟩, ⟨rfl, trivial⟩, rfl⟩
    · exact congrArg (fun l => SV.v (AV.sl l)) (takeM h)
    · exact congrArg (fun l => SV.v (AV.lit (Value.int .i64 l))) (wrap_succ (k := k) (by omega))
  · have h : k = t.args.length := by simp [hlen] at h; omega
    subst h
    have := rebuilt (θ := fun _ => .con sI) t hm
    show AV.agg [_, _, _, AV.sl (eTys ((t.args.take t.args.length).map grd))] = _
    rw [List.take_length]; exact this

theorem ground_ok (t : Tp) : ACall Tryd.prog n_fuguelaw09_ground [eTy t] (eTy (grd t)) := by
  induction t with
  | app a b iha ihb => exact ground_step _ (by simp [Tp.args]; exact ⟨iha, ihb⟩)
  | all s a ih => exact ground_step _ (by simp [Tp.args]; exact ih)
  | _ => exact ground_step _ (by simp [Tp.args])

end Go.Proofs.YtigifkjcghkiiaaDoor

namespace Go.Proofs.YtigifkjcghkiiaaDoor
open Go Fp
set_option maxRecDepth 10000
set_option maxHeartbeats 4000000
set_option linter.unusedVariables false
set_option linter.unusedSimpArgs false

def eS (K : Kn) : AV := .agg [.sl (eIs (dom K)), .sl (eTys (K.map (·.2)))]
theorem getD' {K : Kn} {k : Nat} (h : k < K.length) : (eIs (dom K))[k]? = some (.lit (.int .i64 K[k].1)) := by simp [eIs, dom, h]
theorem getT' {K : Kn} {k : Nat} (h : k < K.length) : (eTys (K.map (·.2)))[k]? = some (eTy K[k].2) := by simp [eTys, h]
theorem getK_first {K : Kn} {n : Int} {k : Nat} (hk : k < K.length) (h : K[k].1 = n) (hb : ∀ j (hj : j < k), K[j].1 ≠ n) : getK K n = some K[k].2 := by
  induction K generalizing k with
  | nil => simp at hk
  | cons q K ih =>
    cases k with
    | zero => simp at h; unfold getK; rw [List.find?_cons_of_pos (by simpa using h)]; rfl
    | succ k =>
      have h0 := hb 0 (by omega)
      simp at h0
      unfold getK
      rw [List.find?_cons_of_neg (by simpa using h0)]
      exact ih (by simpa using hk) (by simpa using h) fun j hj => by have := hb (j + 1) (by omega); simpa using this
theorem getK_off {K : Kn} {n : Int} (hb : ∀ j (hj : j < K.length), K[j].1 ≠ n) : getK K n = none := getK_none.2 fun hn => by
  obtain ⟨q, hq, h⟩ := List.mem_map.1 hn
  obtain ⟨j, hj, rfl⟩ := List.getElem_of_mem hq
  exact hb j hj h

theorem Full_step {K : Kn} (hK : K.length < 1000000) (t : Tp) (hg : ∀ q ∈ K, sbt (th K) q.2 = q.2)
    (hq : ∀ n, t = .mt n → ∀ q ∈ K, ACall Tryd.prog n_fugueref09_Full [eS K, eTy q.2] (eTy q.2))
    (ih : ∀ a ∈ t.args, ACall Tryd.prog n_fugueref09_Full [eS K, eTy a] (eTy (sbt (th K) a))) : ACall Tryd.prog n_fugueref09_Full [eS K, eTy t] (eTy (sbt (th K) t)) := by
  have fin : (∀ a, t = .mt a → th K a = .mt a) → (AV.agg [.lit (.int .i64 t.form), .lit (.int .i64 t.num), .lit (.string t.nam), .sl (eTys (t.args.map (sbt (th K))))] : AV) = eTy (sbt (th K) t) := fun h => by
    by_cases hm : ∃ n, t = .mt n
    · obtain ⟨n, rfl⟩ := hm
      rw [show sbt (th K) (.mt n) = .mt n from h n rfl]; rfl
    · exact rebuilt t fun n e => hm ⟨n, e⟩
  refine acall_of_wc ttok mixed Tryd.func20 rfl (by rfl) (Nat.le_of_ble_eq_true rfl) (by kernel_rfl) ?_
  refine ⟨{k : Nat // k ≤ K.length ∧ ∀ n, t = .mt n → ∀ j (hj : j < K.length), j < k → K[j].1 ≠ n}, fun k => { vs := [(2, .box 0 (eS K)), (3, .box 0 (eTy t)), (4, .box 0 (eTy .no)), (5, .v (.lit (.int .i64 (k.1 : Nat))))] },
    fun k => K.length - k.1, ⟨0, Nat.zero_le _, fun _ _ _ _ h => by omega⟩, ⟨⟨rfl, rfl, rfl, rfl, trivial⟩, trivial, rfl⟩, ?_⟩
  rintro ⟨k, hk, hb⟩
  have hlen : (eIs (dom K)).length = K.length := by simp [eIs, dom]
  refine ⟨fun h => ?_, fun h => ?_⟩
  · have hl : k < K.length := by simp [hlen] at h; omega
    refine ⟨fun h1 => ?_, fun h1 => ?_⟩
    · obtain ⟨n, rfl⟩ := Tp.is_mt (t := t) (by simpa using h1)
      refine ⟨_, by simp, getD' hl, rfl, ?_⟩
      refine ⟨fun h2 => ?_, fun h2 => ?_⟩
      · have h2 : K[k].1 = n := of_decide_eq_true h2
        have hg1 : getK K n = some K[k].2 := getK_first hl h2 fun j hj => hb n rfl j (by omega) hj
        have e1 : sbt (th K) (.mt n) = K[k].2 := by show th K n = _; unfold th; rw [hg1]; rfl
        rw [e1]
        refine ⟨_, by simp, getT' hl, rfl, ?_⟩
        refine .inl ⟨_, hq n rfl _ (List.getElem_mem hl), ?_⟩
        exact rfl
      · have h2 : K[k].1 ≠ n := of_decide_eq_false h2
        refine ⟨⟨k + 1, hl, ?_⟩, by simp; omega, ⟨rfl, rfl, rfl, ?_, trivial⟩, trivial, rfl⟩
        · intro m hm j hj hjk
          injection hm with hm; subst hm
          rcases Nat.lt_succ_iff_lt_or_eq.1 hjk with q | q
          · exact hb n rfl j hj q
          · subst q; exact h2
        · exact congrArg (fun l => SV.v (AV.lit (Value.int .i64 l))) (wrap_succ (k := k) (by omega))
    · refine ⟨⟨k + 1, hl, ?_⟩, by simp; omega, ⟨rfl, rfl, rfl, ?_, trivial⟩, trivial, rfl⟩
      · intro m hm; subst hm; simp [Tp.form] at h1
      · exact congrArg (fun l => SV.v (AV.lit (Value.int .i64 l))) (wrap_succ (k := k) (by omega))
  · have h : k = K.length := by simp [hlen] at h; omega
    subst h
    have hno : ∀ n, t = .mt n → th K n = .mt n := fun n e => by
      unfold th; rw [getK_off fun j hj => hb n e j hj hj]; rfl
    have fin := fin hno
    refine ⟨{k : Nat // k ≤ t.args.length}, fun k => { vs := [(2, .box 0 (eS K)), (3, .box 0 (eTy t)), (4, .box 0 (eTy .no)), (6, .v (.sl (eTys ((t.args.take k.1).map (sbt (th K)))))), (7, .v (.lit (.int .i64 (k.1 : Nat))))], ow := [(6, 0, 5)] },
      fun k => t.args.length - k.1, ⟨0, Nat.zero_le _⟩, ⟨⟨rfl, rfl, rfl, rfl, rfl, trivial⟩, ⟨trivial, trivial⟩, rfl⟩, ?_⟩
    rintro ⟨k, hk⟩
    have hlen : t.eArgs.length = t.args.length := by rw [t.eArgs_eq]; simp [eTys]
    have h2 := args_le t
    refine ⟨fun h => ?_, fun h => ?_⟩
    · have h : k < t.args.length := by simp [hlen] at h; omega
      refine ⟨eTy t.args[k], by simp, by rw [t.eArgs_eq]; exact getT h, rfl, ?_⟩
      refine .inl ⟨_, ih _ (List.getElem_mem h), ?_⟩
      refine ⟨by simp [eTys]; omega, uniT _, uniT [_], ?_⟩
      refine ⟨⟨k + 1, h⟩, by simp; omega, ⟨rfl, rfl, rfl, ?_, ?_, trivial⟩, ⟨rfl, trivial⟩, rfl⟩
      · exact congrArg (fun l => SV.v (AV.sl l)) (takeM h)
      · exact congrArg (fun l => SV.v (AV.lit (Value.int .i64 l))) (wrap_succ (k := k) (by omega))
    · have h : k = t.args.length := by simp [hlen] at h; omega
      subst h
      show AV.agg [_, _, _, AV.sl (eTys ((t.args.take t.args.length).map (sbt (th K))))] = _
      rw [List.take_length]; exact fin

theorem Full_ground {K : Kn} (hK : K.length < 1000000) (hg : ∀ q ∈ K, mvs q.2 = []) (u : Tp) (hu : mvs u = []) : ACall Tryd.prog n_fugueref09_Full [eS K, eTy u] (eTy (sbt (th K) u)) := by
  have hg' : ∀ q ∈ K, sbt (th K) q.2 = q.2 := fun q hq => sbt_none fun n hn => by rw [hg q hq] at hn; simp at hn
  induction u with
  | mt n => simp [mvs] at hu
  | app a b iha ihb =>
    simp [mvs] at hu
    exact Full_step hK _ hg' (fun n e => by cases e) (by simp [Tp.args]; exact ⟨iha hu.1, ihb hu.2⟩)
  | all s a ih => exact Full_step hK _ hg' (fun n e => by cases e) (by simp [Tp.args]; exact ih hu)
  | _ => exact Full_step hK _ hg' (fun n e => by cases e) (by simp [Tp.args])
theorem Full_ok {K : Kn} (hK : K.length < 1000000) (hg : ∀ q ∈ K, mvs q.2 = []) (t : Tp) : ACall Tryd.prog n_fugueref09_Full [eS K, eTy t] (eTy (sbt (th K) t)) := by
  have hg' : ∀ q ∈ K, sbt (th K) q.2 = q.2 := fun q hq => sbt_none fun n hn => by rw [hg q hq] at hn; simp at hn
  have hq : ∀ q ∈ K, ACall Tryd.prog n_fugueref09_Full [eS K, eTy q.2] (eTy q.2) := fun q h => by
    have := Full_ground hK hg q.2 (hg q h)
    rwa [hg' q h] at this
  induction t with
  | app a b iha ihb => exact Full_step hK _ hg' (fun n _ => hq) (by simp [Tp.args]; exact ⟨iha, ihb⟩)
  | all s a ih => exact Full_step hK _ hg' (fun n _ => hq) (by simp [Tp.args]; exact ih)
  | _ => exact Full_step hK _ hg' (fun n _ => hq) (by simp [Tp.args])
end Go.Proofs.YtigifkjcghkiiaaDoor

namespace Go.Proofs.YtigifkjcghkiiaaDoor
open Go Fp
set_option maxRecDepth 10000
set_option maxHeartbeats 16000000
set_option linter.unusedVariables false
set_option linter.unusedSimpArgs false

theorem ok_self {l : Kn} {n : Int} (h : Ok l) : (n, .mt n) ∉ l := by
  induction l using snoc_ind with
  | h0 => simp
  | h1 l a ih =>
    obtain ⟨m, t⟩ := a
    obtain ⟨h1, h2, h3⟩ := ok_snoc.1 h
    intro hm
    rcases List.mem_append.1 hm with hm | hm
    · exact ih h1 hm
    · simp at hm
      obtain ⟨rfl, rfl⟩ := hm
      rw [fl_mt, sg_unknown h2] at h3
      simp [mvs] at h3

theorem th_ground {K : Kn} (hg : ∀ q ∈ K, mvs q.2 = []) (n : Int) : mvs (th K n) = [] ∨ th K n = .mt n := by
  unfold th
  cases h : getK K n with
  | none => exact .inr rfl
  | some t => exact .inl (hg _ (getK_some h))
theorem th_idem {K : Kn} (hg : ∀ q ∈ K, mvs q.2 = []) (t : Tp) : sbt (th K) (sbt (th K) t) = sbt (th K) t := by
  rw [sbt_sbt]
  refine sbt_congr fun n _ => ?_
  rcases th_ground hg n with h | h
  · exact sbt_none fun m hm => by rw [h] at hm; simp at hm
  · rw [h]; exact h
theorem th_size {K : Kn} {k : Nat} (hk : 1 ≤ k) (hs : ∀ q ∈ K, q.2.sz ≤ k) (n : Int) : tsz (th K n) ≤ k := by
  unfold th
  cases h : getK K n with
  | none => simp [tsz]; omega
  | some t => have h1 : t.sz ≤ k := hs _ (getK_some h); have := (sz_tsz t).2; simp only [Option.getD_some]; omega
theorem th_good {K : Kn} (hs : ∀ q ∈ K, good q.2) : ∀ {t : Tp}, good t → good (sbt (th K) t)
  | .mt n, h => by
    show good (th K n)
    unfold th
    cases hk : getK K n with
    | none => exact h
    | some t => exact hs _ (getK_some hk)
  | .app a b, h => ⟨th_good hs h.1, th_good hs h.2⟩
  | .all s a, h => ⟨h.1, th_good hs h.2⟩
  | .var s, h => h
  | .con s, h => h
theorem th_flat {K : Kn} (hs : ∀ q ∈ K, flat q.2) : ∀ {t : Tp}, flat t → flat (sbt (th K) t)
  | .mt n, h => by
    show flat (th K n)
    unfold th
    cases hk : getK K n with
    | none => exact h
    | some t => exact hs _ (getK_some hk)
  | .app a b, h => ⟨th_flat hs h.1, th_flat hs h.2⟩
  | .no, h => trivial
  | .var s, h => trivial
  | .con s, h => trivial

/-- What a type and its image make known is the least: it makes the image of it. -/
theorem least_law {K : Kn} (hg : ∀ q ∈ K, mvs q.2 = []) {t : Tp} {e : Int} {l' : Kn} (hs : ∀ q ∈ K, q.2.sz ≤ 400) (h : OneS [] t (sbt (th K) t) e l') :
    e = 0 ∧ fl l' t = sbt (th K) t := by
  obtain ⟨k1, k2⟩ := h.least (th K) (fun n t hn => by simp at hn) (th_idem hg t).symm
  have he : e = 0 := k2.resolve_right fun he => by
    have := h.great he
    rw [not_great k1 fun n _ => Nat.le_trans (th_size (k := 400) (by decide) hs n) (by decide)] at this
    cases this
  refine ⟨he, (h.good he).trans ?_⟩
  rw [fl_sbt]
  refine sbt_none fun n hn => sg_unknown fun hd => ?_
  obtain ⟨m, _, hm⟩ := mem_mvs_sbt.1 hn
  have hn0 : th K n = .mt n := by
    rcases th_ground hg m with q | q
    · rw [q] at hm; simp at hm
    · rw [q] at hm; simp [mvs] at hm; subst hm; exact q
  obtain ⟨q, hq, rfl⟩ := List.mem_map.1 hd
  have k3 := k1 q.1 q.2 hq
  rw [hn0] at k3
  cases hu : q.2 with
  | mt j =>
    rw [hu] at k3
    have k4 : th K j = .mt q.1 := k3.symm
    rcases th_ground hg j with r | r
    · rw [k4] at r; simp [mvs] at r
    · rw [r] at k4
      injection k4 with k4
      subst k4
      exact ok_self h.ok (n := q.1) (by have := hq; rw [show q = (q.1, q.2) from rfl, hu] at this; exact this)
  | _ => rw [hu] at k3; simp [sbt] at k3

end Go.Proofs.YtigifkjcghkiiaaDoor

namespace Go.Proofs.YtigifkjcghkiiaaDoor
open Go Fp
set_option maxRecDepth 10000
set_option maxHeartbeats 16000000
set_option linter.unusedVariables false
set_option linter.unusedSimpArgs false

def lk (f : List Int → Tp) (by' : List (List Int)) (j : Nat) : Kn := (List.range j).map fun i => (((i + 1 : Nat) : Int), grd (f (by'.getD i [])))
theorem lk_dom (f : List Int → Tp) (by' : List (List Int)) (j : Nat) : eIs (dom (lk f by' j)) ++ [.lit (.int .i64 ((j + 1 : Nat) : Int))] = eIs (dom (lk f by' (j + 1))) := by
  unfold lk dom eIs; rw [List.range_succ]; simp
theorem lk_ty (f : List Int → Tp) (by' : List (List Int)) (j : Nat) : eTys ((lk f by' j).map (·.2)) ++ [eTy (grd (f (by'.getD j [])))] = eTys ((lk f by' (j + 1)).map (·.2)) := by
  unfold lk eTys; rw [List.range_succ]; simp
theorem lk_length (f : List Int → Tp) (by' : List (List Int)) (j : Nat) : (lk f by' j).length = j := by unfold lk; simp
theorem lk_ground {f : List Int → Tp} {by' : List (List Int)} {j : Nat} : ∀ q ∈ lk f by' j, mvs q.2 = [] := fun q hq => by
  obtain ⟨i, _, rfl⟩ := List.mem_map.1 hq; exact grd_mvs _
theorem rsz (t : Tp) : tsz t ≤ t.sz := (sz_tsz t).2

theorem unifyLeast_ok {l : List Int} (hl : l.length < 9223372036854775808) (hr : ∀ x ∈ l, InR x) {by' : List (List Int)} (hll : by'.length < 9223372036854775808) (hb : ∀ r ∈ by', (∀ x ∈ r, InR x) ∧ r.length < 9223372036854775808) :
    ACall Tryd.prog n_fuguelaw09_UnifyLeast [.sl (eIs l), .sl (eRows by')] (.sb true) := by
  obtain ⟨t, hP, gt, ft, zt⟩ := plain_ok hl hr
  have hx : ∀ r : List Int, ∃ u : Tp, r ∈ by' → ACall Tryd.prog n_fugueref04_Plain [.sl (eIs r)] (eTy u) ∧ good u ∧ flat u ∧ u.sz ≤ 193 := fun r => by
    by_cases h : r ∈ by'
    · obtain ⟨u, h1, h2, h3, h4⟩ := plain_ok (hb r h).2 (hb r h).1
      exact ⟨u, fun _ => ⟨h1, h2, h3, h4⟩⟩
    · exact ⟨.no, fun h' => absurd h' h⟩
  obtain ⟨f, hf⟩ := Classical.axiomOfChoice hx
  have hel : (eRows by').length = by'.length := by simp [eRows]
  have hkn : ∀ j, j ≤ by'.length → ∀ q ∈ lk f by' j, good q.2 ∧ flat q.2 ∧ q.2.sz ≤ 193 := fun j hj q hq => by
    obtain ⟨i, hi, rfl⟩ := List.mem_map.1 hq
    have hi : i < j := by simpa using hi
    have hm : by'.getD i [] ∈ by' := by rw [List.getD_eq_getElem?_getD, List.getElem?_eq_getElem (by omega)]; exact List.getElem_mem _
    obtain ⟨_, h2, h3, h4⟩ := hf _ hm
    exact ⟨grd_good h2, grd_flat h3, by rw [grd_sz]; exact h4⟩
  have tail : ∀ k, k ≤ by'.length → k ≤ 4 → ∀ b1 b2, Wsem Tryd.prog (sndC (sndC (sndC (sndC (sndC (sndC (bodyC Tryd.f4))))))) (mkC { vs := [(5, .v (sP b1)), (6, .box 0 (eTy t)), (7, .box 0 (eS (lk f by' k)))], hp := stH b1 b2 0 [] })
      (fun c => RetP tt Tryd.f4.results.toList (.sb true) (den c)) (fun _ _ => False) (fun c => RetP tt Tryd.f4.results.toList (.sb true) (den c)) := fun k hk hk4 b1 b2 => by
    have hK := hkn k hk
    obtain ⟨K, eK⟩ : ∃ K, K = lk f by' k := ⟨_, rfl⟩
    have hKl : K.length < 1000000 := by rw [eK, lk_length]; omega
    have hKg : ∀ q ∈ K, mvs q.2 = [] := eK ▸ lk_ground
    rw [← eK] at hK ⊢
    have hF := Full_ok hKl hKg t
    have gx : good (sbt (th K) t) := th_good (fun q hq => (hK q hq).1) gt
    have fx : flat (sbt (th K) t) := th_flat (fun q hq => (hK q hq).2.1) ft
    have zx := tsz_mul (θ := th K) (k := 193) (by decide) (th_size (by decide) fun q hq => (hK q hq).2.2) t
    have zx2 := (sz_tsz (sbt (th K) t)).1
    have zx3 := (sz_tsz t).2
    have hS := rsize_ok 400000 (by decide) (sbt (th K) t) (by omega)
    obtain ⟨e, la, l1, hS1, hl1, hok1, _, hU⟩ := unify_law sok_nil gt gx ft fx
    obtain ⟨he, hfl⟩ := least_law hKg (fun q hq => by have := (hK q hq).2.2; omega) hS1
    subst he
    rw [if_pos rfl] at hl1
    subst hl1
    have hA := Apply_ok hok1.ok t b1 b2 0
    rw [hfl] at hA
    refine Wsem.of ttok mixed ?_
    refine .inl ⟨_, hF, ?_⟩
    refine .inl ⟨_, hS, ?_⟩
    refine ⟨fun h => ?_, fun h => ?_⟩
    · refine .inl ⟨_, lives_ok, ?_⟩
      exact rfl
    · refine .inr (.inr (.inr (.inl ⟨[0, 1], stH b1 b2 0 [], stH b1 b2 0 l1, _, rfl, by decide, rfl, hU rfl b1 b2 0, ?_⟩)))
      refine ⟨fun hbs => ?_, fun hbs => ?_⟩ <;> first | (exfalso; revert hbs; (simp); done) | skip
      refine .inr (.inr (.inl ⟨[0, 1], stH b1 b2 0 l1, _, rfl, by decide, hA, ?_⟩))
      refine .inl ⟨_, equal_ok _ _, ?_⟩
      refine ⟨fun hbs => ?_, fun hbs => ?_⟩ <;> first | (exfalso; revert hbs; (simp); done) | skip
      refine .inl ⟨_, lives_ok, ?_⟩
      refine ⟨by kernel_rfl, ?_⟩
      exact rfl
  refine acall_of_wsem ttok mixed Tryd.func4 rfl (by rfl) (Nat.le_of_ble_eq_true rfl) (by kernel_rfl) ?_
  refine Wsem.seq ttok mixed ?_
  refine Wsem.seq ttok mixed ?_
  refine .inr (.inr (.inr (.inr (.inr (.inl ⟨[], [], [], _, rfl, List.nodup_nil, rfl, new_ok, ?_⟩)))))
  rintro r w hp ⟨rfl, b1, b2, rfl, rfl⟩
  refine Wsem.seq ttok mixed ?_
  refine Wsem.seq ttok mixed ?_
  refine .inl ⟨_, hP, ?_⟩
  refine Wsem.seq ttok mixed ?_
  refine Wsem.seq ttok mixed ?_
  refine ⟨{k : Nat // k ≤ by'.length ∧ k ≤ 4}, fun k => { vs := [(1, .v (.sl (eRows by'))), (5, .v (sP b1)), (6, .box 0 (eTy t)), (7, .box 0 (eS (lk f by' k.1))), (8, .v (.lit (.int .i64 (k.1 : Nat))))], ow := [(7, 0, 2), (7, 1, 5)], hp := stH b1 b2 0 [] },
    fun k => by'.length - k.1, ⟨0, Nat.zero_le _, Nat.zero_le _⟩, ⟨⟨rfl, rfl, rfl, rfl, rfl, trivial⟩, ⟨trivial, trivial, trivial⟩, rfl⟩, ?_⟩
  rintro ⟨k, hk, hk4⟩
  refine ⟨fun h => ?_, fun h => ?_⟩
  · have h : k < by'.length := by simp [hel] at h; omega
    refine ⟨fun h3 => ?_, fun h3 => ?_⟩
    · have h3 : k < 4 := by simp at h3; omega
      have hm : by'[k] ∈ by' := List.getElem_mem h
      have hgd : by'.getD k [] = by'[k] := by rw [List.getD_eq_getElem?_getD, List.getElem?_eq_getElem h]; rfl
      obtain ⟨h4, _⟩ := hf _ hm
      have e1 := lk_dom f by' k
      have e2 := lk_ty f by' k
      rw [hgd] at e2
      refine ⟨by simp [eIs, dom, lk_length]; omega, uniI _, uniI [_], ?_⟩
      refine ⟨.sl (eIs by'[k]), by omega, by simp [eRows, h], rfl, ?_⟩
      refine .inl ⟨_, h4, ?_⟩
      refine .inl ⟨_, ground_ok _, ?_⟩
      refine ⟨by simp [eTys, lk_length]; omega, uniT _, uniT [_], ?_⟩
      refine ⟨rfl, ?_⟩
      refine ⟨⟨k + 1, by omega, by omega⟩, (show by'.length - (k + 1) < by'.length - k by omega), ⟨rfl, rfl, rfl, ?_, ?_, trivial⟩, ⟨rfl, rfl, trivial⟩, rfl⟩
      · have e3 : SV.box 0 (AV.agg [.sl (eIs (dom (lk f by' k)) ++ [.lit (.int .i64 ((k + 1 : Nat) : Int))]), .sl (eTys ((lk f by' k).map (·.2)) ++ [eTy (grd (f by'[k]))])]) = SV.box 0 (eS (lk f by' (k + 1))) := by
          rw [e1, e2]; rfl
        have e4 := wrap_succ (k := k) (by omega)
        rw [← e4] at e3
        exact e3
      · exact congrArg (fun n => SV.v (AV.lit (Value.int .i64 n))) (wrap_succ (k := k) (by omega))
    · refine Wsem.cut _ ?_ (tail k hk hk4 b1 b2)
      exact ⟨⟨rfl, rfl, rfl, trivial⟩, trivial, rfl⟩
  · refine Wsem.cut _ ?_ (tail k hk hk4 b1 b2)
    exact ⟨⟨rfl, rfl, rfl, trivial⟩, trivial, rfl⟩
end Go.Proofs.YtigifkjcghkiiaaDoor
