/- The document's Unify says what the code's says: the same answer, and as much is known. -/
import Derived.Test.YtigifkjcghkiiaaDoorO
import Derived.Test.YtigifkjcghkiiaaDoorM
set_option linter.unusedSimpArgs false
set_option linter.unusedVariables false
namespace Go.Proofs.YtigifkjcghkiiaaDoor
open Go Fp
set_option maxRecDepth 10000
set_option maxHeartbeats 4000000
set_option linter.unusedVariables false
set_option linter.unusedSimpArgs false

structure RelK (l K : Kn) : Prop where
  ok : Ok K
  dm : dom K = dom l
  same : ∀ x, fl K x = fl l x
def Pb (t : Tp) : Prop := flat t ∧ tsz t ≤ 400 ∧ ∀ n ∈ mvs t, ∃ k : Nat, n = (k : Int) ∧ k < 100
theorem Pb_app (a b : Tp) (h : Pb (.app a b)) : Pb a ∧ Pb b := by
  obtain ⟨h1, h2, h3⟩ := h
  have := tsz_pos a
  have := tsz_pos b
  simp only [tsz] at h2
  exact ⟨⟨h1.1, by omega, fun n hn => h3 n (by simp [mvs, hn])⟩, h1.2, by omega, fun n hn => h3 n (by simp [mvs, hn])⟩
def Bd (l : Kn) : Prop := ∀ q ∈ l, Pb q.2 ∧ Pb (.mt q.1)
theorem Bd.len {l : Kn} (h : Bd l) (hok : Ok l) : l.length ≤ 100 := by
  have h1 : (dom l).length ≤ ((List.range 100).map fun k => ((k : Nat) : Int)).length := nodup_sub_len (dom_nodup hok) fun n hn => by
    obtain ⟨q, hq, rfl⟩ := List.mem_map.1 hn
    obtain ⟨k, hk, hk2⟩ := (h q hq).2.2.2 q.1 (by simp [mvs])
    exact List.mem_map.2 ⟨k, by simpa using hk2, hk.symm⟩
  simpa [dom] using h1
theorem RelK.len {l K : Kn} (h : RelK l K) : K.length = l.length := by
  have := congrArg List.length h.dm
  simpa [dom] using this
theorem RelK.nil : RelK [] [] := ⟨ok_nil, rfl, fun _ => rfl⟩
theorem relK_great {l K : Kn} (h : RelK l K) : greatF K = greatF l := by
  have e : ∀ l : Kn, greatF l = (dom l).any fun n => decide (500 < min 501 (tsz (fl l (.mt n)))) := fun l => by
    unfold greatF dom szc; rw [List.any_map]; rfl
  rw [e, e, h.dm]
  congr 1
  funext n
  rw [h.same]
theorem relK_snoc {l K : Kn} (h : RelK l K) {n : Int} {t : Tp} (hok : Ok l) (hn : n ∉ dom l) (hm : n ∉ mvs (fl l t)) : RelK (l ++ [(n, t)]) (K ++ [(n, fl l t)]) := by
  have hid : fl K (fl l t) = fl l t := by rw [h.same, fl_idem hok]
  refine ⟨ok_snoc.2 ⟨h.ok, by rw [h.dm]; exact hn, by rw [hid]; exact hm⟩, ?_, fun x => ?_⟩
  · have := h.dm
    unfold dom at *
    rw [List.map_append, List.map_append, this]; rfl
  · rw [fl_snoc, fl_snoc, hid, h.same]
theorem RelK.full {l K : Kn} (h : RelK l K) (hl : l.length < 1000000) {a x : Tp} (hx : fl l a = x) : FullAt K a x := by
  have := FullG_ok (by rw [h.len]; exact hl) h.ok a
  rwa [h.same, hx] at this
theorem small_fl {l : Kn} (hg : greatF l = false) {t : Tp} (ht : tsz t ≤ 400) : tsz (fl l t) ≤ 200000 := by
  have h1 := tsz_mul (θ := sg l) (k := 500) (by decide) (small_sg hg) t
  rw [← fl_sbt] at h1
  omega

theorem know_rel {l K : Kn} (hR : RelK l K) (hok : Ok l) (hg : greatF l = false) (hb : Bd l) {n : Int} {t : Tp} (hn : n ∉ dom l) (ht : tsz t ≤ 400) :
    (n ∈ mvs (fl l t) → ACall Tryd.prog n_fugueref09_know [eS K, .lit (.int .i64 n), eTy (fl l t)] (eR K 32)) ∧
    (n ∉ mvs (fl l t) → ∃ K', RelK (l ++ [(n, t)]) K' ∧ ACall Tryd.prog n_fugueref09_know [eS K, .lit (.int .i64 n), eTy (fl l t)] (if greatF (l ++ [(n, t)]) = true then eR K 39 else eR K' 0)) := by
  have z1 := small_fl hg ht
  have z2 := (sz_tsz (fl l t)).1
  refine ⟨fun h => know_in (by omega) h, fun h => ?_⟩
  have hR' := relK_snoc hR hok hn h
  refine ⟨_, hR', ?_⟩
  have hk := know_off (K := K) (n := n) (t := fl l t) (by omega) h hR'.ok (by rw [hR.len]; have := hb.len hok; omega) (fun q hq => by
    have h0 : tsz (fl K q.2) ≤ 200000 := by
      rcases List.mem_append.1 hq with hq | hq
      · have hs := sg_known hR.ok q.1 q.2 hq
        rw [← hs]
        have := small_sg (by rw [relK_great hR]; exact hg) q.1 (l := K)
        omega
      · simp at hq; subst hq
        show tsz (fl K (fl l t)) ≤ 200000
        rw [hR.same, fl_idem hok]; exact z1
    have hid : fl K (fl l t) = fl l t := by rw [hR.same, fl_idem hok]
    have h1 := tsz_mul (θ := put1 n (fl l t)) (k := 200000) (by decide) (fun m => by unfold put1; split; exact z1; simp [tsz]) (fl K q.2)
    rw [fl_snoc, hid]
    have h2 := (sz_tsz (sbt (put1 n (fl l t)) (fl K q.2))).1
    omega)
  rw [relK_great hR'] at hk
  exact hk

/-- What a call comes to. -/
def RefAt (l K : Kn) (a b : Tp) (e : Int) (l' : Kn) : Prop := ∃ K', (e = 0 → RelK l' K') ∧ (e ≠ 0 → K' = K) ∧ (e = 0 → greatF l' = false) ∧ RU K a b (eR K' e)
theorem bind_res {l K : Kn} (hR : RelK l K) (hok : Ok l) (hg : greatF l = false) (hb : Bd l) {n : Int} {v a b : Tp} (hv : v ≠ .mt n) (hn : (swp n v).1 ∉ dom l) (ht : tsz (swp n v).2 ≤ 400)
    (hru : ∀ K' e, ACall Tryd.prog n_fugueref09_know [eS K, .lit (.int .i64 (swp n v).1), eTy (fl l (swp n v).2)] (eR K' e) → RU K a b (eR K' e)) : RefAt l K a b (bindF l n v).1 (bindF l n v).2 := by
  obtain ⟨k1, k2⟩ := know_rel hR hok hg hb hn ht
  unfold bindF
  rw [if_neg hv]
  generalize swp n v = q at *
  by_cases hin : q.1 ∈ mvs (fl l q.2)
  · rw [if_pos hin]
    exact ⟨K, fun e => by simp at e, fun _ => rfl, fun e => by simp at e, hru _ _ (k1 hin)⟩
  · rw [if_neg hin]
    obtain ⟨K', hR', hk⟩ := k2 hin
    by_cases hgr : greatF (l ++ [q]) = true
    · rw [if_pos hgr]
      rw [if_pos hgr] at hk
      exact ⟨K, fun e => by simp at e, fun _ => rfl, fun e => by simp at e, hru _ _ hk⟩
    · rw [if_neg hgr]
      rw [if_neg hgr] at hk
      exact ⟨K', fun _ => hR', fun e => by simp at e, fun _ => by simpa using hgr, hru _ _ hk⟩
end Go.Proofs.YtigifkjcghkiiaaDoor

namespace Go.Proofs.YtigifkjcghkiiaaDoor
open Go Fp
set_option maxRecDepth 10000
set_option maxHeartbeats 4000000
set_option linter.unusedVariables false
set_option linter.unusedSimpArgs false

theorem refU {l l' : Kn} {a b : Tp} {e : Int} (h : OneR l a b e l') : ∀ (K : Kn) (a' b' : Tp), RelK l K → Ok l → greatF l = false → Bd l → Pb a → Pb b → fl l a' = fl l a → fl l b' = fl l b → RefAt l K a' b' e l' := by
  induction h with
  | @bind l n v hn hv =>
    intro K a' b' hR hok hg hb pa pb ea eb
    have hl : l.length < 1000000 := by have := hb.len hok; omega
    have fa : fl l (.mt n) = .mt n := sg_unknown hn
    have FA := hR.full hl (ea.trans fa)
    by_cases h0 : v = .mt n
    · subst h0
      have FB := hR.full hl (eb.trans fa)
      unfold bindF
      rw [if_pos rfl]
      exact ⟨K, fun _ => hR, fun _ => rfl, fun _ => hg, RU_same FA FB⟩
    · have hs := swp_unknown hn hv
      cases v with
      | mt m =>
        have fb : fl l (.mt m) = .mt m := sg_unknown (hv m rfl)
        have FB := hR.full hl (eb.trans fb)
        refine bind_res hR hok hg hb h0 hs ?_ fun K' e hk => ?_
        · unfold swp; simp only; split <;> simp [tsz]
        · unfold swp at hk
          simp only at hk
          by_cases hlt : n < m
          · rw [if_pos hlt] at hk
            simp only [fa] at hk
            exact RU_lt FA FB hlt hk
          · rw [if_neg hlt] at hk
            simp only [fb] at hk
            have : n ≠ m := fun e => h0 (by rw [e])
            exact RU_gt FA FB (by omega) hk
      | _ =>
        refine bind_res hR hok hg hb h0 hs pb.2.1 fun K' e hk => ?_
        exact RU_left FA (hR.full hl eb) (by rw [(fl_form (fun m h => by cases h)).1]; simp [Tp.form]) hk
  | @bindR l n v hn hv =>
    intro K a' b' hR hok hg hb pa pb ea eb
    have hl : l.length < 1000000 := by have := hb.len hok; omega
    have fb : fl l (.mt n) = .mt n := sg_unknown hn
    have FB := hR.full hl (eb.trans fb)
    have hsw : swp n v = (n, v) := by
      cases v with
      | mt m => exact absurd rfl (hv m)
      | _ => rfl
    have hvf : v.form ≠ 1 := fun e => by obtain ⟨m, rfl⟩ := Tp.is_mt e; exact hv m rfl
    refine bind_res hR hok hg hb (hv n) (by rw [hsw]; exact hn) (by rw [hsw]; exact pa.2.1) fun K' e hk => ?_
    rw [hsw] at hk
    exact RU_right (hR.full hl ea) FB (by rw [(fl_form hv).1]; exact hvf) hk
  | @apart l u v hu hv hne =>
    intro K a' b' hR hok hg hb pa pb ea eb
    have hl : l.length < 1000000 := by have := hb.len hok; omega
    have f1 := fl_form (l := l) hu
    have f2 := fl_form (l := l) hv
    have huf : u.form ≠ 1 := fun e => by obtain ⟨m, rfl⟩ := Tp.is_mt e; exact hu m rfl
    have hvf : v.form ≠ 1 := fun e => by obtain ⟨m, rfl⟩ := Tp.is_mt e; exact hv m rfl
    have hu5 : u.form ≠ 5 := fun e => by obtain ⟨s, x, rfl⟩ := Tp.is_all e; exact pa.1
    exact ⟨K, fun e => by simp at e, fun _ => rfl, fun e => by simp at e, RU_apart (hR.full hl ea) (hR.full hl eb) (by rw [f1.1]; exact huf) (by rw [f2.1]; exact hvf) (by rw [f1.1]; exact hu5) (by rw [f1.1, f1.2, f2.1, f2.2]; exact hne)⟩
  | @leaf l u hu ha =>
    intro K a' b' hR hok hg hb pa pb ea eb
    have hl : l.length < 1000000 := by have := hb.len hok; omega
    have huf : u.form ≠ 1 := fun e => by obtain ⟨m, rfl⟩ := Tp.is_mt e; exact hu m rfl
    have hu5 : u.form ≠ 5 := fun e => by obtain ⟨s, x, rfl⟩ := Tp.is_all e; exact pa.1
    have hfu : fl l u = u := by
      rw [fl_sbt]
      cases u with
      | mt m => exact absurd rfl (hu m)
      | app x y => simp [Tp.args] at ha
      | all s x => simp [Tp.args] at ha
      | _ => rfl
    exact ⟨K, fun _ => hR, fun _ => rfl, fun _ => hg, RU_leaf (hR.full hl (ea.trans hfu)) (hR.full hl (eb.trans hfu)) huf hu5 ha⟩
  | @app1 l l1 a1 a2 b1 b2 e h1 he ih =>
    intro K a' b' hR hok hg hb pa pb ea eb
    have hl : l.length < 1000000 := by have := hb.len hok; omega
    obtain ⟨K', _, r2, _, r4⟩ := ih K (fl l a1) (fl l b1) hR hok hg hb (Pb_app _ _ pa).1 (Pb_app _ _ pb).1 (fl_idem hok a1) (fl_idem hok b1)
    have hK := r2 he
    subst hK
    exact ⟨K', fun h => absurd h he, fun _ => rfl, fun h => absurd h he, RU_app1 (hR.full hl (ea.trans (fl_app l a1 a2))) (hR.full hl (eb.trans (fl_app l b1 b2))) r4 he⟩
  | @app2 l l1 l2 a1 a2 b1 b2 e h1 hs ho hsm hkp h2 ih1 ih2 =>
    intro K a' b' hR hok hg hb pa pb ea eb
    have hl : l.length < 1000000 := by have := hb.len hok; omega
    have pa' := Pb_app _ _ pa
    have pb' := Pb_app _ _ pb
    obtain ⟨K1, r1, _, r3, r4⟩ := ih1 K (fl l a1) (fl l b1) hR hok hg hb pa'.1 pb'.1 (fl_idem hok a1) (fl_idem hok b1)
    have hsub : ∀ q ∈ l, q ∈ l1 := fun q hq => by obtain ⟨s, rfl⟩ := hs; exact List.mem_append_left _ hq
    have hb1 : Bd l1 := hkp Pb Pb_app hb pa'.1 pb'.1
    obtain ⟨K2, s1, s2, s3, s4⟩ := ih2 K1 (fl l a2) (fl l b2) (r1 rfl) ho (hsm hg) hb1 pa'.2 pb'.2 (fl_more ho hsub a2) (fl_more ho hsub b2)
    refine ⟨if e = 0 then K2 else K, fun h => by rw [if_pos h]; exact s1 h, fun h => by rw [if_neg h], s3, RU_app2 (hR.full hl (ea.trans (fl_app l a1 a2))) (hR.full hl (eb.trans (fl_app l b1 b2))) r4 s4⟩
  | @look l a b u v e l' hu hv h ih =>
    intro K a' b' hR hok hg hb pa pb ea eb
    exact ih K a' b' hR hok hg hb (hu.keep Pb pa fun q hq => (hb q hq).1) (hv.keep Pb pb fun q hq => (hb q hq).1) (ea.trans hu.same.symm) (eb.trans hv.same.symm)
end Go.Proofs.YtigifkjcghkiiaaDoor

namespace Go.Proofs.YtigifkjcghkiiaaDoor
open Go Fp
set_option maxRecDepth 10000
set_option maxHeartbeats 16000000
set_option linter.unusedVariables false
set_option linter.unusedSimpArgs false

theorem kn_mem {l : Kn} {n : Int} : n ∈ kn l ↔ n ∈ dom l := by unfold kn; exact (List.mergeSort_perm _ _).mem_iff
theorem kn_length (l : Kn) : (kn l).length = (dom l).length := by unfold kn; simp
theorem kn_lt {l : Kn} (h : (dom l).Nodup) : (kn l).Pairwise (· < ·) := by
  have h1 : (kn l).Pairwise fun a b => decide (a ≤ b) = true := List.pairwise_mergeSort (fun a b c h1 h2 => by simp at *; omega) (fun a b => by simp; omega) _
  have h2 : (kn l).Nodup := ((List.mergeSort_perm _ _).nodup_iff).2 h
  exact (h1.and h2).imp fun ⟨a, b⟩ => by simp at a; omega
/-- May it come next? -/
def cand (s : List Int) (j : Nat) (x : Int) : Prop := j = 0 ∨ s.getD (j - 1) 0 < x
theorem cand_iff {s : List Int} (hs : s.Pairwise (· < ·)) {j : Nat} (hj : j ≤ s.length) {i : Nat} (hi : i < s.length) : cand s j s[i] ↔ j ≤ i := by
  unfold cand
  rcases Nat.eq_zero_or_pos j with rfl | hp
  · simp
  · have e : s.getD (j - 1) 0 = s[j - 1] := by rw [List.getD_eq_getElem?_getD, List.getElem?_eq_getElem (by omega)]; rfl
    rw [e]
    rw [List.pairwise_iff_getElem] at hs
    constructor
    · rintro (h | h)
      · omega
      · rcases Nat.lt_or_ge i j with q | q
        · rcases Nat.lt_or_ge i (j - 1) with q2 | q2
          · have := hs i (j - 1) hi (by omega) q2; omega
          · have : i = j - 1 := by omega
            subst this; omega
        · exact q
    · intro h
      exact .inr (hs (j - 1) i (by omega) hi (by omega))
/-- The least that may come next, of the first so many. -/
def Best (D s : List Int) (j i : Nat) (b : Int) : Prop :=
  (b = -1 ∧ ∀ k (hk : k < D.length), k < i → ¬ cand s j D[k]) ∨ (b ∈ D ∧ 0 ≤ b ∧ cand s j b ∧ ∀ k (hk : k < D.length), k < i → cand s j D[k] → b ≤ D[k])
theorem best_end {D s : List Int} (hm : ∀ x, x ∈ s ↔ x ∈ D) (hs : s.Pairwise (· < ·)) {j : Nat} (hj : j < s.length) {b : Int} (h : Best D s j D.length b) : b = s[j] ∧ 0 ≤ b := by
  have hc : cand s j s[j] := (cand_iff hs (by omega) hj).2 (Nat.le_refl _)
  obtain ⟨k, hk, hkj⟩ := List.getElem_of_mem ((hm s[j]).1 (List.getElem_mem hj))
  rcases h with ⟨_, h⟩ | ⟨h1, h2, h3, h4⟩
  · exact absurd (hkj ▸ hc) (h k hk hk)
  · refine ⟨?_, h2⟩
    have h5 := h4 k hk hk (hkj ▸ hc)
    obtain ⟨i, hi, rfl⟩ := List.getElem_of_mem ((hm b).2 h1)
    have h6 := (cand_iff hs (by omega) hi).1 h3
    rw [hkj] at h5
    rcases Nat.lt_or_ge j i with q | q
    · rw [List.pairwise_iff_getElem] at hs
      have := hs j i hj hi q; omega
    · have : i = j := by omega
      subst this; rfl
theorem best_step {D s : List Int} {j i : Nat} {b : Int} (hi : i < D.length) (hp : ∀ x ∈ D, 0 ≤ x) (h : Best D s j i b) :
    (cand s j D[i] → (b < 0 ∨ D[i] < b) → Best D s j (i + 1) D[i]) ∧ ((¬ cand s j D[i] ∨ ¬ (b < 0 ∨ D[i] < b)) → Best D s j (i + 1) b) := by
  refine ⟨fun h1 h2 => .inr ⟨List.getElem_mem hi, hp _ (List.getElem_mem hi), h1, fun k hk hki hc => ?_⟩, fun h1 => ?_⟩
  · rcases Nat.lt_succ_iff_lt_or_eq.1 hki with q | q
    · rcases h with ⟨_, h⟩ | ⟨_, h4, _, h3⟩
      · exact absurd hc (h k hk q)
      · have := h3 k hk q hc
        omega
    · subst q; exact Int.le_refl _
  · rcases h with ⟨h3, h⟩ | ⟨h2, h3, h4, h5⟩
    · refine .inl ⟨h3, fun k hk hki => ?_⟩
      rcases Nat.lt_succ_iff_lt_or_eq.1 hki with q | q
      · exact h k hk q
      · subst q
        rcases h1 with h1 | h1
        · exact h1
        · exact absurd (.inl (by omega)) h1
    · refine .inr ⟨h2, h3, h4, fun k hk hki hc => ?_⟩
      rcases Nat.lt_succ_iff_lt_or_eq.1 hki with q | q
      · exact h5 k hk q hc
      · subst q
        rcases h1 with h1 | h1
        · exact absurd hc h1
        · omega
end Go.Proofs.YtigifkjcghkiiaaDoor
