/- The document's Unify, walked, TAlls too. -/
import Derived.Test.YtigifkjcghkiiaaDoorS
import Derived.Test.YtigifkjcghkiiaaDoorFpJ
set_option linter.unusedSimpArgs false
set_option linter.unusedVariables false
namespace Go.Proofs.YtigifkjcghkiiaaDoor
open Go Fp
set_option maxRecDepth 10000
set_option maxHeartbeats 16000000
set_option linter.unusedVariables false
set_option linter.unusedSimpArgs false

theorem RU_apart5 {K : Kn} {a b x y : Tp} (ha : FullAt K a x) (hb : FullAt K b y) (hx5 : x.form = 5) (hy : y.form ≠ 1) (hy5 : y.form ≠ 5) : RU K a b (eR K 31) := by
  have hx : x.form ≠ 1 := by omega
  have hf : x.form ≠ y.form := by omega
  refine acall_of_wcx ttok mixed Tryd.func29 rfl (by rfl) (Nat.le_of_ble_eq_true rfl) (by kernel_rfl) ?_
  refine .inl ⟨_, ha, ?_⟩
  refine .inl ⟨_, hb, ?_⟩
  refine ⟨fun hbs => ?_, fun hbs => ?_⟩ <;> first | (exfalso; revert hbs; (simp [hx]); done) | skip
  refine ⟨fun hbs => ?_, fun hbs => ?_⟩ <;> first | (exfalso; revert hbs; (simp [hx]); done) | skip
  refine ⟨fun hbs => ?_, fun hbs => ?_⟩ <;> first | (exfalso; revert hbs; (simp [hx]); done) | skip
  refine ⟨fun hbs => ?_, fun hbs => ?_⟩ <;> first | (exfalso; revert hbs; (simp [hy]); done) | skip
  refine ⟨fun hbs => ?_, fun hbs => ?_⟩ <;> first | (exfalso; revert hbs; (simp [hx5]); done) | skip
  refine ⟨fun hbs => ?_, fun hbs => ?_⟩ <;> first | (exfalso; revert hbs; (simp [hy5]); done) | skip
  refine ⟨fun hbs => ?_, fun hbs => ?_⟩ <;> first | (exfalso; revert hbs; (simp [hf]); done) | skip
  exact rfl
theorem RU_alls {K : Kn} {a b x y : Tp} {q : Bool} (ha : FullAt K a x) (hb : FullAt K b y) (hx5 : x.form = 5) (hy5 : y.form = 5) (hs : ACall Tryd.prog n_fugueref04_Same [eTy x, eTy y] (.sb q)) : RU K a b (eR K (if q = true then 0 else 31)) := by
  have hx : x.form ≠ 1 := by omega
  have hy : y.form ≠ 1 := by omega
  have hf : x.form = y.form := by omega
  refine acall_of_wcx ttok mixed Tryd.func29 rfl (by rfl) (Nat.le_of_ble_eq_true rfl) (by kernel_rfl) ?_
  refine .inl ⟨_, ha, ?_⟩
  refine .inl ⟨_, hb, ?_⟩
  refine ⟨fun hbs => ?_, fun hbs => ?_⟩ <;> first | (exfalso; revert hbs; (simp [hx]); done) | skip
  refine ⟨fun hbs => ?_, fun hbs => ?_⟩ <;> first | (exfalso; revert hbs; (simp [hx]); done) | skip
  refine ⟨fun hbs => ?_, fun hbs => ?_⟩ <;> first | (exfalso; revert hbs; (simp [hx]); done) | skip
  refine ⟨fun hbs => ?_, fun hbs => ?_⟩ <;> first | (exfalso; revert hbs; (simp [hy]); done) | skip
  refine ⟨fun hbs => ?_, fun hbs => ?_⟩ <;> first | (exfalso; revert hbs; (simp [hx5]); done) | skip
  refine ⟨fun hbs => ?_, fun hbs => ?_⟩ <;> first | (exfalso; revert hbs; (simp [hy5]); done) | skip
  refine .inl ⟨_, hs, ?_⟩
  cases q with
  | true =>
    refine ⟨fun hbs => ?_, fun hbs => ?_⟩ <;> first | (exfalso; revert hbs; (simp); done) | skip
    exact rfl
  | false =>
    refine ⟨fun hbs => ?_, fun hbs => ?_⟩ <;> first | (exfalso; revert hbs; (simp); done) | skip
    refine ⟨fun hbs => ?_, fun hbs => ?_⟩ <;> first | (exfalso; revert hbs; (simp [hf]); done) | skip
    refine ⟨fun hbs => ?_, fun hbs => ?_⟩ <;> first | (exfalso; revert hbs; (simp [hx5]); done) | skip
    exact rfl
theorem know_relA {l K : Kn} (hR : RelK l K) (hok : Ok l) (hg : greatF l = false) (hlen : l.length ≤ 100) {n : Int} {t : Tp} (hn : n ∉ dom l) (ht : tsz t ≤ 400) :
    (n ∈ mvs (fl l t) → ACall Tryd.prog n_fugueref09_know [eS K, .lit (.int .i64 n), eTy (fl l t)] (eR K 32)) ∧
    (n ∉ mvs (fl l t) → ∃ K', RelK (l ++ [(n, t)]) K' ∧ ACall Tryd.prog n_fugueref09_know [eS K, .lit (.int .i64 n), eTy (fl l t)] (if greatF (l ++ [(n, t)]) = true then eR K 39 else eR K' 0)) := by
  have z1 := small_fl hg ht
  have z2 := (sz_tsz (fl l t)).1
  refine ⟨fun h => know_in (by omega) h, fun h => ?_⟩
  have hR' := relK_snoc hR hok hn h
  refine ⟨_, hR', ?_⟩
  have hk := know_off (K := K) (n := n) (t := fl l t) (by omega) h hR'.ok (by rw [hR.len]; omega) (fun q hq => by
    have h0 : tsz (fl K q.2) ≤ 200000 := by
      rcases List.mem_append.1 hq with hq | hq
      · have hs := sg_known hR.ok q.1 q.2 hq
        rw [← hs]
        have := small_sg (by rw [relK_great hR]; exact hg) q.1 (l := K)
        omega
      · simp at hq; subst hq
        show tsz (fl K (fl l t)) ≤ 200000
        rw [hR.same, fl_idem hok]; exact z1
    have hid : fl K (fl l t) = fl l t := by rw [hR.same, fl_idem hok]
    have h1 := tsz_mul (θ := put1 n (fl l t)) (k := 200000) (by decide) (fun m => by unfold put1; split; exact z1; simp [tsz]) (fl K q.2)
    rw [fl_snoc, hid]
    have h2 := (sz_tsz (sbt (put1 n (fl l t)) (fl K q.2))).1
    omega)
  rw [relK_great hR'] at hk
  exact hk


theorem bind_resA {l K : Kn} (hR : RelK l K) (hok : Ok l) (hg : greatF l = false) (hlen : l.length ≤ 100) {n : Int} {v a b : Tp} (hv : v ≠ .mt n) (hn : (swp n v).1 ∉ dom l) (ht : tsz (swp n v).2 ≤ 400)
    (hru : ∀ K' e, ACall Tryd.prog n_fugueref09_know [eS K, .lit (.int .i64 (swp n v).1), eTy (fl l (swp n v).2)] (eR K' e) → RU K a b (eR K' e)) : RefAt l K a b (bindF l n v).1 (bindF l n v).2 := by
  obtain ⟨k1, k2⟩ := know_relA hR hok hg hlen hn ht
  unfold bindF
  rw [if_neg hv]
  generalize swp n v = q at *
  by_cases hin : q.1 ∈ mvs (fl l q.2)
  · rw [if_pos hin]
    exact ⟨K, fun e => by simp at e, fun _ => rfl, fun e => by simp at e, hru _ _ (k1 hin)⟩
  · rw [if_neg hin]
    obtain ⟨K', hR', hk⟩ := k2 hin
    by_cases hgr : greatF (l ++ [q]) = true
    · rw [if_pos hgr]
      rw [if_pos hgr] at hk
      exact ⟨K, fun e => by simp at e, fun _ => rfl, fun e => by simp at e, hru _ _ hk⟩
    · rw [if_neg hgr]
      rw [if_neg hgr] at hk
      exact ⟨K', fun _ => hR', fun e => by simp at e, fun _ => by simpa using hgr, hru _ _ hk⟩
end Go.Proofs.YtigifkjcghkiiaaDoor

namespace Go.Proofs.YtigifkjcghkiiaaDoor
open Go Fp
set_option maxRecDepth 10000
set_option maxHeartbeats 4000000
set_option linter.unusedVariables false
set_option linter.unusedSimpArgs false

def LN (t : Tp) : Prop := LowT 2600 t ∧ Nm t
theorem fl_LN {l : Kn} (h : Ok l) (hl : ∀ q ∈ l, LN q.2) {t : Tp} (ht : LN t) : LN (fl l t) := by
  obtain ⟨k, hk⟩ := ap_fl h t
  have go : ∀ (k : Nat) (t y : Tp), LN t → ap l k t = some y → LN y := fun k => by
    induction k with
    | zero => intro t y _ h; simp [ap] at h
    | succ k ih =>
      intro t y hg hy
      cases t with
      | mt n =>
        rw [ap] at hy
        split at hy
        · injection hy with hy; subst hy; exact hg
        · rename_i x hx
          exact ih x y (hl _ (getK_some hx)) hy
      | app a b =>
        rw [ap] at hy
        split at hy
        · rename_i a' b' ha hb
          injection hy with hy; subst hy
          have h1 := ih a a' ⟨hg.1.1, hg.2.1⟩ ha
          have h2 := ih b b' ⟨hg.1.2, hg.2.2⟩ hb
          exact ⟨⟨h1.1, h2.1⟩, h1.2, h2.2⟩
        · cases hy
      | all s a =>
        rw [ap] at hy
        obtain ⟨a', ha, rfl⟩ := Option.map_eq_some_iff.1 hy
        have h1 := ih a a' ⟨hg.1.2, hg.2⟩ ha
        exact ⟨⟨hg.1.1, h1.1⟩, h1.2⟩
      | no => exact hg.2.elim
      | var s => injection (show some (Tp.var s) = some y from hy) with hy; subst hy; exact hg
      | con s => injection (show some (Tp.con s) = some y from hy) with hy; subst hy; exact hg
  exact go k t _ ht hk
def Pz (t : Tp) : Prop := tsz t ≤ 400 ∧ LN t
theorem Pz_app (a b : Tp) (h : Pz (.app a b)) : Pz a ∧ Pz b := by
  obtain ⟨h1, h2, h3⟩ := h
  have := tsz_pos a
  have := tsz_pos b
  simp only [tsz] at h1
  exact ⟨⟨by omega, h2.1, h3.1⟩, by omega, h2.2, h3.2⟩
def BdA (l : Kn) : Prop := ∀ q ∈ l, Pz q.2 ∧ Pz (.mt q.1)
theorem BdA.num {l : Kn} (h : BdA l) : ∀ n ∈ dom l, ∃ k : Nat, n = (k : Int) ∧ k < 10 := fun n hn => by
  obtain ⟨q, hq, rfl⟩ := List.mem_map.1 hn
  exact (h q hq).2.2.2
theorem BdA.len {l : Kn} (h : BdA l) (hok : Ok l) : l.length ≤ 100 := by
  have h1 : (dom l).length ≤ ((List.range 10).map fun k => ((k : Nat) : Int)).length := nodup_sub_len (dom_nodup hok) fun n hn => by
    obtain ⟨k, rfl, hk⟩ := h.num n hn
    exact List.mem_map.2 ⟨k, by simpa using hk, rfl⟩
  simp [dom] at h1; omega

theorem refUA {l l' : Kn} {a b : Tp} {e : Int} (h : OneRA l a b e l') : ∀ (K : Kn) (a' b' : Tp), RelK l K → Ok l → greatF l = false → BdA l → Pz a → Pz b → fl l a' = fl l a → fl l b' = fl l b → RefAt l K a' b' e l' := by
  induction h with
  | @bind l n v hn hv =>
    intro K a' b' hR hok hg hb pa pb ea eb
    have hl : l.length < 1000000 := by have := hb.len hok; omega
    have fa : fl l (.mt n) = .mt n := sg_unknown hn
    have FA := hR.full hl (ea.trans fa)
    by_cases h0 : v = .mt n
    · subst h0
      have FB := hR.full hl (eb.trans fa)
      unfold bindF
      rw [if_pos rfl]
      exact ⟨K, fun _ => hR, fun _ => rfl, fun _ => hg, RU_same FA FB⟩
    · have hs := swp_unknown hn hv
      cases v with
      | mt m =>
        have fb : fl l (.mt m) = .mt m := sg_unknown (hv m rfl)
        have FB := hR.full hl (eb.trans fb)
        refine bind_resA hR hok hg (hb.len hok) h0 hs ?_ fun K' e hk => ?_
        · unfold swp; simp only; split <;> simp [tsz]
        · unfold swp at hk
          simp only at hk
          by_cases hlt : n < m
          · rw [if_pos hlt] at hk
            simp only [fa] at hk
            exact RU_lt FA FB hlt hk
          · rw [if_neg hlt] at hk
            simp only [fb] at hk
            have : n ≠ m := fun e => h0 (by rw [e])
            exact RU_gt FA FB (by omega) hk
      | _ =>
        refine bind_resA hR hok hg (hb.len hok) h0 hs pb.1 fun K' e hk => ?_
        exact RU_left FA (hR.full hl eb) (by rw [(fl_form (fun m h => by cases h)).1]; simp [Tp.form]) hk
  | @bindR l n v hn hv =>
    intro K a' b' hR hok hg hb pa pb ea eb
    have hl : l.length < 1000000 := by have := hb.len hok; omega
    have fb : fl l (.mt n) = .mt n := sg_unknown hn
    have FB := hR.full hl (eb.trans fb)
    have hsw : swp n v = (n, v) := by
      cases v with
      | mt m => exact absurd rfl (hv m)
      | _ => rfl
    have hvf : v.form ≠ 1 := fun e => by obtain ⟨m, rfl⟩ := Tp.is_mt e; exact hv m rfl
    refine bind_resA hR hok hg (hb.len hok) (hv n) (by rw [hsw]; exact hn) (by rw [hsw]; exact pa.1) fun K' e hk => ?_
    rw [hsw] at hk
    exact RU_right (hR.full hl ea) FB (by rw [(fl_form hv).1]; exact hvf) hk
  | @apart l u v hu hv h5 hne =>
    intro K a' b' hR hok hg hb pa pb ea eb
    have hl : l.length < 1000000 := by have := hb.len hok; omega
    have f1 := fl_form (l := l) hu
    have f2 := fl_form (l := l) hv
    have huf : u.form ≠ 1 := fun e => by obtain ⟨m, rfl⟩ := Tp.is_mt e; exact hu m rfl
    have hvf : v.form ≠ 1 := fun e => by obtain ⟨m, rfl⟩ := Tp.is_mt e; exact hv m rfl
    refine ⟨K, fun e => by simp at e, fun _ => rfl, fun e => by simp at e, ?_⟩
    by_cases hu5 : u.form = 5
    · exact RU_apart5 (hR.full hl ea) (hR.full hl eb) (by rw [f1.1]; exact hu5) (by rw [f2.1]; exact hvf) (by rw [f2.1]; exact fun e => h5 ⟨hu5, e⟩)
    · exact RU_apart (hR.full hl ea) (hR.full hl eb) (by rw [f1.1]; exact huf) (by rw [f2.1]; exact hvf) (by rw [f1.1]; exact hu5) (by rw [f1.1, f1.2, f2.1, f2.2]; exact hne)
  | @alls l u v hu hv =>
    intro K a' b' hR hok hg hb pa pb ea eb
    have hl : l.length < 1000000 := by have := hb.len hok; omega
    have f1 := fl_form (l := l) (t := u) (fun m e => by subst e; simp [Tp.form] at hu)
    have f2 := fl_form (l := l) (t := v) (fun m e => by subst e; simp [Tp.form] at hv)
    have l1 := fl_LN hok (fun q hq => (hb q hq).1.2) pa.2
    have l2 := fl_LN hok (fun q hq => (hb q hq).1.2) pb.2
    have z1 := small_fl hg pa.1
    have z2 := small_fl hg pb.1
    have z3 := (sz_tsz (fl l u)).1
    have z4 := (sz_tsz (fl l v)).1
    have hQ := rSame_ok (K := 2600) (by decide) l1.1 l2.1 l1.2 l2.2 (by omega) (by omega)
    have hqq : decide (nl (fl l u) [] = nl (fl l v) []) = smb (fl l u) (fl l v) [] [] := by
      rw [Bool.eq_iff_iff, decide_eq_true_iff, nl_iff l1.1 l2.1 l1.2 l2.2]
    rw [hqq] at hQ
    exact ⟨K, fun _ => hR, fun _ => rfl, fun _ => hg, RU_alls (hR.full hl ea) (hR.full hl eb) (by rw [f1.1]; exact hu) (by rw [f2.1]; exact hv) hQ⟩
  | @leaf l u hu ha =>
    intro K a' b' hR hok hg hb pa pb ea eb
    have hl : l.length < 1000000 := by have := hb.len hok; omega
    have huf : u.form ≠ 1 := fun e => by obtain ⟨m, rfl⟩ := Tp.is_mt e; exact hu m rfl
    have hu5 : u.form ≠ 5 := fun e => by obtain ⟨s, x, rfl⟩ := Tp.is_all e; simp [Tp.args] at ha
    have hfu : fl l u = u := by
      rw [fl_sbt]
      cases u with
      | mt m => exact absurd rfl (hu m)
      | app x y => simp [Tp.args] at ha
      | all s x => simp [Tp.args] at ha
      | _ => rfl
    exact ⟨K, fun _ => hR, fun _ => rfl, fun _ => hg, RU_leaf (hR.full hl (ea.trans hfu)) (hR.full hl (eb.trans hfu)) huf hu5 ha⟩
  | @app1 l l1 a1 a2 b1 b2 e h1 he ih =>
    intro K a' b' hR hok hg hb pa pb ea eb
    have hl : l.length < 1000000 := by have := hb.len hok; omega
    obtain ⟨K', _, r2, _, r4⟩ := ih K (fl l a1) (fl l b1) hR hok hg hb (Pz_app _ _ pa).1 (Pz_app _ _ pb).1 (fl_idem hok a1) (fl_idem hok b1)
    have hK := r2 he
    subst hK
    exact ⟨K', fun h => absurd h he, fun _ => rfl, fun h => absurd h he, RU_app1 (hR.full hl (ea.trans (fl_app l a1 a2))) (hR.full hl (eb.trans (fl_app l b1 b2))) r4 he⟩
  | @app2 l l1 l2 a1 a2 b1 b2 e h1 hs ho hsm hkp h2 ih1 ih2 =>
    intro K a' b' hR hok hg hb pa pb ea eb
    have hl : l.length < 1000000 := by have := hb.len hok; omega
    have pa' := Pz_app _ _ pa
    have pb' := Pz_app _ _ pb
    obtain ⟨K1, r1, _, r3, r4⟩ := ih1 K (fl l a1) (fl l b1) hR hok hg hb pa'.1 pb'.1 (fl_idem hok a1) (fl_idem hok b1)
    have hsub : ∀ q ∈ l, q ∈ l1 := fun q hq => by obtain ⟨s, rfl⟩ := hs; exact List.mem_append_left _ hq
    have hb1 : BdA l1 := hkp Pz Pz_app hb pa'.1 pb'.1
    obtain ⟨K2, s1, s2, s3, s4⟩ := ih2 K1 (fl l a2) (fl l b2) (r1 rfl) ho (hsm hg) hb1 pa'.2 pb'.2 (fl_more ho hsub a2) (fl_more ho hsub b2)
    refine ⟨if e = 0 then K2 else K, fun h => by rw [if_pos h]; exact s1 h, fun h => by rw [if_neg h], s3, RU_app2 (hR.full hl (ea.trans (fl_app l a1 a2))) (hR.full hl (eb.trans (fl_app l b1 b2))) r4 s4⟩
  | @look l a b u v e l' hu hv h ih =>
    intro K a' b' hR hok hg hb pa pb ea eb
    exact ih K a' b' hR hok hg hb (hu.keep Pz pa fun q hq => (hb q hq).1) (hv.keep Pz pb fun q hq => (hb q hq).1) (ea.trans hu.same.symm) (eb.trans hv.same.symm)
end Go.Proofs.YtigifkjcghkiiaaDoor

namespace Go.Proofs.YtigifkjcghkiiaaDoor
open Go Fp
set_option maxRecDepth 10000
set_option maxHeartbeats 16000000
set_option linter.unusedVariables false
set_option linter.unusedSimpArgs false

theorem same30A {l K : Kn} (hok : Ok l) (hBd : BdA l) (hR : RelK l K) (b1 b2 : Nat) (k : Int) : CallsG Tryd.prog (fnv n_fuguelaw09_same) (stH b1 b2 k l) [sP b1, eS K] [] fun r o h => r = .sb true ∧ o = 0 ∧ h = stH b1 b2 k l := by
  have hfew := hBd.len hok
  have hKn := Known_ok (dom_nodup hok) (fun n hn => by obtain ⟨k, rfl, hk⟩ := hBd.num n hn; unfold InR; omega) (by omega) b1 b2 k
  have hkn : kn K = kn l := by unfold kn; rw [hR.dm]
  have hRK := RKnown_ok (K := K) (by rw [hR.dm]; exact dom_nodup hok) (fun n hn => by rw [hR.dm] at hn; obtain ⟨k, rfl, _⟩ := hBd.num n hn; omega) (by rw [hR.len]; omega)
  rw [hkn] at hRK
  have hkl : (kn l).length < 9223372036854775807 := by rw [kn_length]; simp [dom]; omega
  refine CallsG.less0 (post := fun r o h => r = .sb true ∧ h = stH b1 b2 k l) ?_ (fun r o h hp => ⟨h, [], by simp, hp.1, rfl, hp.2⟩)
  refine callsG_of_wcx (first := []) (cap := []) ttok mixed Tryd.func30 rfl (by rfl) rfl (Nat.le_of_ble_eq_true rfl) (by kernel_rfl) ?_
  refine .inr (.inr (.inl ⟨[0, 1], stH b1 b2 k l, _, rfl, by decide, hKn, ?_⟩))
  refine .inl ⟨_, hRK, ?_⟩
  refine .inl ⟨_, sameInts_ok (kn l) hkl, ?_⟩
  refine ⟨by kernel_rfl, ?_⟩
  refine ⟨fun hbs => ?_, fun hbs => ?_⟩ <;> first | (exfalso; revert hbs; (simp); done) | skip
  refine ⟨{i : Nat // i ≤ 6}, fun i => { vs := [(0, .v (sP b1)), (3, .box 0 (eS K)), (5, .v (.lit (.int .i64 (i.1 : Nat))))], hp := stH b1 b2 k l },
    fun i => 6 - i.1, ⟨1, by omega⟩, ⟨⟨rfl, rfl, rfl, trivial⟩, trivial, rfl⟩, ?_⟩
  rintro ⟨i, hi⟩
  have hA := Apply_ok hok (.mt (i : Nat)) b1 b2 k
  have hF := hR.full (by omega) (a := .mt (i : Nat)) rfl
  refine ⟨fun h => ?_, fun h => ?_⟩
  · have h : i ≤ 5 := by have h := of_decide_eq_true h; simp only at h; omega
    refine .inr (.inr (.inl ⟨[0, 1], stH b1 b2 k l, _, rfl, by decide, hA, ?_⟩))
    refine .inl ⟨_, hF, ?_⟩
    refine .inl ⟨_, equal_ok _ _, ?_⟩
    refine ⟨by kernel_rfl, ?_⟩
    refine ⟨fun hbs => ?_, fun hbs => ?_⟩ <;> first | (exfalso; revert hbs; (simp); done) | skip
    refine ⟨⟨i + 1, by omega⟩, by simp; omega, ⟨rfl, rfl, svc (wrap_succ (k := i) (by omega)), trivial⟩, trivial, rfl⟩
  · exact ⟨rfl, rfl⟩


theorem made_Pz {t : Tp} (hg : good t) (hz : t.sz ≤ 193) : Pz t := ⟨by have := (sz_tsz t).2; omega, (good_low hg).mono (by decide), good_nm hg⟩
theorem fit_name {t : Tp} {x y : ByteArray} (hg : good t) (hz : t.sz ≤ 193) (hy : y ∈ small4) : Fit 24 t [(x, .var y)] := by
  have := dp_sz t
  exact ⟨good_low hg, fun p hp => by simp at hp; subst hp; exact small4_low y hy, by omega, by simp; omega, by omega, fun p hp => by simp at hp; subst hp; simp [Tp.sz]⟩
theorem renamed_Pz {t : Tp} {x y z : ByteArray} (hg : good t) (hz : t.sz ≤ 193) (hy : y ∈ small4) (hz4 : z ∈ small4) : Pz (.all z (sub t [(x, .var y)])) := by
  have hd := dp_sz t
  have h1 := sub_sz (M := 1) (Nat.le_refl _) t [(x, .var y)] (fun p hp => by simp at hp; subst hp; simp [Tp.sz])
  have h2 := sub_low t 24 _ (fit_name (x := x) hg hz hy)
  have h3 := sub_nm t [(x, .var y)] (good_nm hg) (fun p hp => by simp at hp; subst hp; trivial)
  have h4 := (sz_tsz (sub t [(x, .var y)])).2
  exact ⟨by simp only [tsz]; omega, ⟨(small4_low z hz4).mono (by decide), h2.mono (by omega)⟩, h3⟩
end Go.Proofs.YtigifkjcghkiiaaDoor

namespace Go.Proofs.YtigifkjcghkiiaaDoor
open Go Fp
set_option maxRecDepth 10000
set_option maxHeartbeats 16000000
set_option linter.unusedVariables false
set_option linter.unusedSimpArgs false

theorem bdA_nil : BdA [] := fun q hq => by simp at hq
theorem all_Pz {t : Tp} {s : ByteArray} (hg : good t) (hz : t.sz ≤ 193) (hs : s ∈ small4) : Pz (.all s t) := by
  obtain ⟨h1, h2, h3⟩ := made_Pz hg hz
  have h4 := (sz_tsz t).2
  exact ⟨by simp only [tsz]; omega, ⟨(small4_low s hs).mono (by decide), h2⟩, h3⟩

theorem round_law {x y : Tp} (px : Pz x) (py : Pz y) : ∃ (e : Int) (l1 K' : Kn), RU [] x y (eR K' e) ∧ (∀ b1 b2, CallsG Tryd.prog (fnv n_unify_Subst_Unify) (stH b1 b2 0 []) [sP b1, eTy x, eTy y] [] fun r o hp => r = .lit (.int .i64 e) ∧ o = 0 ∧ ∃ b3, hp = stH b1 b3 0 l1) ∧
    ∀ b1 b2, CallsG Tryd.prog (fnv n_fuguelaw09_same) (stH b1 b2 0 l1) [sP b1, eS K'] [] fun r o h => r = .sb true ∧ o = 0 ∧ h = stH b1 b2 0 l1 := by
  obtain ⟨e, l', hS, hU, _⟩ := unify_okA ok_nil rfl (fun q hq => by simp at hq) px.1 py.1
  obtain ⟨K', r1, r2, r3, r4⟩ := refUA hS.run [] x y RelK.nil ok_nil rfl bdA_nil px py rfl rfl
  refine ⟨e, if e = 0 then l' else [], K', r4, fun b1 b2 => hU b1 b2 0, fun b1 b2 => ?_⟩
  by_cases he : e = 0
  · rw [if_pos he]
    exact same30A hS.ok (hS.kp Pz Pz_app bdA_nil px py) (r1 he) b1 b2 0
  · rw [if_neg he]
    refine same30A ok_nil bdA_nil ?_ b1 b2 0
    rw [r2 he]; exact RelK.nil

theorem inR_wrap (n : Int) : InR (IntKind.i64.wrap n) := by
  unfold InR
  simp [IntKind.wrap, IntKind.signed, IntKind.bits]; omega

theorem unifyAlls_ok {l m : List Int} {n : Int} (hl : l.length < 9223372036854775808) (hlr : ∀ x ∈ l, InR x) (hm : m.length < 9223372036854775808) (hmr : ∀ x ∈ m, InR x) (hn : InR n) :
    ACall Tryd.prog n_fuguelaw09_UnifyAlls [.sl (eIs l), .sl (eIs m), .lit (.int .i64 n)] (.sb true) := by
  obtain ⟨a, hA, ga, za⟩ := made_ok hl hlr
  obtain ⟨b, hB, gb, zb⟩ := made_ok hm hmr
  obtain ⟨s, hs, hS⟩ := name_ok hn
  obtain ⟨s2, hs2, hS2⟩ := name_ok (inR_wrap (n + 1))
  have hsub := rsubst_ok a.sz a (Nat.le_refl _) 24 [(s, .var s2)] (fit_name ga za hs2)
  have pa := made_Pz ga za
  have pb := made_Pz gb zb
  have pc := all_Pz ga za hs
  have pd := renamed_Pz (x := s) ga za hs2 hs2
  unfold rsubstSays at hsub
  generalize hd : sub a [(s, .var s2)] = d at hsub pd
  have hrow : ∀ k, k < 3 → ∃ x y, Pz x ∧ Pz y ∧ ([.sl [eTy a, eTy b], .sl [eTy (.all s a), eTy (.all s2 d)], .sl [eTy (.all s a), eTy a]] : List AV)[k]? = some (.sl [eTy x, eTy y]) := fun k hk => by
    match k, hk with
    | 0, _ => exact ⟨_, _, pa, pb, rfl⟩
    | 1, _ => exact ⟨_, _, pc, pd, rfl⟩
    | 2, _ => exact ⟨_, _, pc, pa, rfl⟩
  refine acall_of_wsem ttok mixed Tryd.func11 rfl (by rfl) (Nat.le_of_ble_eq_true rfl) (by kernel_rfl) ?_
  refine Wsem.seq ttok mixed ?_
  refine Wsem.seq ttok mixed ?_
  refine .inl ⟨_, hA, ?_⟩
  refine Wsem.seq ttok mixed ?_
  refine .inl ⟨_, hB, ?_⟩
  refine Wsem.seq ttok mixed ?_
  refine .inl ⟨_, hS, ?_⟩
  refine .inl ⟨_, all_mk s a, ?_⟩
  refine ⟨by kernel_rfl, ?_⟩
  refine Wsem.seq ttok mixed ?_
  refine .inl ⟨_, hS2, ?_⟩
  refine .inl ⟨_, hS, ?_⟩
  refine .inl ⟨_, hS2, ?_⟩
  refine .inl ⟨_, hsub, ?_⟩
  refine .inl ⟨_, all_mk s2 d, ?_⟩
  refine ⟨by kernel_rfl, ?_⟩
  refine Wsem.seq ttok mixed ?_
  refine Wsem.cut { vs := [(11, .v (.sl [.sl [eTy a, eTy b], .sl [eTy (.all s a), eTy (.all s2 d)], .sl [eTy (.all s a), eTy a]]))], hp := [] } ⟨⟨rfl, trivial⟩, trivial, rfl⟩ ?_
  generalize ([.sl [eTy a, eTy b], .sl [eTy (.all s a), eTy (.all s2 d)], .sl [eTy (.all s a), eTy a]] : List AV) = rows at hrow
  refine Wsem.seqS ?_
  refine Wsem.seq ttok mixed ?_
  refine Wsem.block ?_
  refine Wsem.loop (α := {k : Nat // k ≤ 3}) (fun k => { vs := [(11, .v (.sl rows)), (12, .v (.lit (.int .i64 (k.1 : Nat))))], hp := [] }) (fun k => 3 - k.1) ⟨0, by omega⟩ ⟨⟨rfl, rfl, trivial⟩, trivial, rfl⟩ ?_
  rintro ⟨k, hk⟩
  simp only
  refine Wsem.seq ttok mixed ?_
  refine ⟨fun h => ?_, fun h => ?_⟩
  rotate_left
  · refine Wsem.of ttok mixed ?_
    refine .inl ⟨_, lives_ok, ?_⟩
    exact rfl
  have h : k < 3 := by have h := of_decide_eq_true h; omega
  obtain ⟨x, y, px, py, hxy⟩ := hrow k h
  obtain ⟨e, l1, K', hRU, hU, hSame⟩ := round_law px py
  refine Wsem.seqS ?_
  refine Wsem.block ?_
  refine Wsem.seq ttok mixed ?_
  refine .inr (.inr (.inr (.inr (.inr (.inl ⟨[], [], [], _, rfl, List.nodup_nil, rfl, new_ok, ?_⟩)))))
  rintro r0 w hp ⟨rfl, b1, b2, rfl, rfl⟩
  refine Wsem.seq ttok mixed ?_
  refine Wsem.seq ttok mixed ?_
  refine ⟨.sl [eTy x, eTy y], by omega, hxy, rfl, ?_⟩
  refine ⟨eTy x, by decide, rfl, rfl, ?_⟩
  refine ⟨.sl [eTy x, eTy y], by omega, hxy, rfl, ?_⟩
  refine ⟨eTy y, by decide, rfl, rfl, ?_⟩
  refine .inl ⟨_, hRU, ?_⟩
  refine ⟨by kernel_rfl, ?_⟩
  refine Wsem.seqS (Wsem.regionO ttok mixed true 13 ?_)
  refine ⟨.sl [eTy x, eTy y], by omega, hxy, rfl, ?_⟩
  refine ⟨eTy x, by decide, rfl, rfl, ?_⟩
  refine ⟨.sl [eTy x, eTy y], by omega, hxy, rfl, ?_⟩
  refine ⟨eTy y, by decide, rfl, rfl, ?_⟩
  refine ⟨15, _, rfl, rfl, rfl, by decide, ?_⟩
  refine ⟨[0, 1], stH b1 b2 0 [], _, rfl, by decide, hU b1 b2, ⟨_, _, _, rfl, rfl, 0, rfl⟩, ?_⟩
  rintro r0 w hp ⟨rfl, rfl, b3, rfl⟩
  refine ⟨fun hbs => ?_, fun hbs => ?_⟩ <;> first | (exfalso; revert hbs; (simp); done) | skip
  refine .inr (.inr (.inl ⟨[0, 1], stH b1 b3 0 l1, _, rfl, by decide, hSame b1 b3, ?_⟩))
  refine ⟨by kernel_rfl, ?_⟩
  refine Wsem.of ttok mixed ?_
  refine ⟨fun hbs => ?_, fun hbs => ?_⟩ <;> first | (exfalso; revert hbs; (simp); done) | skip
  refine Wsem.drop (hp' := []) (List.nil_sublist _) ?_
  refine Wsem.of ttok mixed ?_
  refine ⟨⟨k + 1, h⟩, (show 3 - (k + 1) < 3 - k by omega), ⟨rfl, svc (wrap_succ (k := k) (by omega)), trivial⟩, trivial, rfl⟩
end Go.Proofs.YtigifkjcghkiiaaDoor
