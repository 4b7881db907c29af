/- UnifyBoth: the statement's function is true. No condition but that numbers are integers of 64 bits. -/
import Derived.Test.YtigifkjcghkiiaaDoorM
set_option linter.unusedSimpArgs false
set_option linter.unusedVariables false
namespace Go.Proofs.YtigifkjcghkiiaaDoor
open Go Fp
set_option maxRecDepth 10000
set_option maxHeartbeats 16000000
set_option linter.unusedVariables false
set_option linter.unusedSimpArgs false

theorem look_zip {x : ByteArray} : ∀ {ns : List ByteArray} {us : List Tp} {k : Nat} (hn : ns.Nodup) (hk : k < ns.length), ns[k] = x → us.length = ns.length → look x (ns.zip us) = us[k]?
  | [], _, k, _, hk, _, _ => by simp at hk
  | y :: ns, [], k, _, _, _, hl => by simp at hl
  | y :: ns, u :: us, 0, hn, hk, h, hl => by
    simp at h; subst h
    show (if y = y then some u else _) = _
    rw [if_pos rfl]; rfl
  | y :: ns, u :: us, k + 1, hn, hk, h, hl => by
    have hk' : k < ns.length := by simpa using hk
    have h' : ns[k] = x := by simpa using h
    rw [List.nodup_cons] at hn
    have hne : y ≠ x := fun e => hn.1 (by rw [e, ← h']; exact List.getElem_mem hk')
    show (if y = x then some u else look x (ns.zip us)) = _
    rw [if_neg hne, look_zip hn.2 hk' h' (by simpa using hl)]; rfl
theorem look_zip_no {x : ByteArray} {ns : List ByteArray} {us : List Tp} (h : memb x ns = false) (hl : us.length = ns.length) : look x (ns.zip us) = none := by
  cases hk : look x (ns.zip us) with
  | none => rfl
  | some u =>
    have := (List.of_mem_zip (look_mem hk)).1
    rw [memb_yes this] at h; cases h
theorem sbt_sbv {θ : Int → Tp} {σ : ByteArray → Tp} : ∀ {p : Tp}, flat p → mvs p = [] → sbt θ (sbv σ p) = sbv (fun x => sbt θ (σ x)) p
  | .var x, _, _ => by rw [sbv, sbv]
  | .app a b, h, hm => by simp [mvs] at hm; rw [sbv, sbt, sbv, sbt_sbv h.1 hm.1, sbt_sbv h.2 hm.2]
  | .no, _, _ => rfl
  | .con _, _, _ => rfl
  | .mt n, _, hm => by simp [mvs] at hm
theorem sbv_mvs {σ : ByteArray → Tp} (h : ∀ x, mvs (σ x) = []) : ∀ {p : Tp}, flat p → mvs p = [] → mvs (sbv σ p) = []
  | .var x, _, _ => h x
  | .app a b, hf, hm => by simp [mvs] at hm; rw [sbv, mvs, sbv_mvs h hf.1 hm.1, sbv_mvs h hf.2 hm.2]; rfl
  | .no, _, _ => rfl
  | .con _, _, _ => rfl
  | .mt n, _, hm => by simp [mvs] at hm

/-- Numbers from one, with a type each. -/
def kF (g : Nat → Tp) (n : Nat) : Kn := (List.range n).map fun i => (((i + 1 : Nat) : Int), g i)
theorem th_kF {g : Nat → Tp} {n i : Nat} (hi : i < n) : th (kF g n) ((i + 1 : Nat) : Int) = g i := by
  have hl : (kF g n).length = n := by simp [kF]
  have := getK_first (K := kF g n) (n := ((i + 1 : Nat) : Int)) (k := i) (by omega) (by simp [kF]) (fun j hj => by simp [kF]; omega)
  unfold th
  rw [this]; simp [kF]
def opT (i : Nat) : Tp := .mt ((i + 1 : Nat) : Int)

/-- Names for which types are put, or numbers: the numbers are found to be the types. -/
theorem both_sub {ns : List ByteArray} (hnd : ns.Nodup) (g : Nat → Tp) (hg : ∀ i, mvs (g i) = []) {p : Tp} (fp : flat p) (hp : mvs p = []) :
    sbt (th (kF g ns.length)) (sub p (ns.zip ((List.range ns.length).map opT))) = sub p (ns.zip ((List.range ns.length).map g)) := by
  rw [sub_sbv fp, sub_sbv fp, sbt_sbv fp hp]
  refine sbv_congr fun x _ => ?_
  by_cases hx : memb x ns = true
  · obtain ⟨k, _, hk, hkx⟩ := ixI_in hx
    rw [look_zip hnd hk hkx (by simp), look_zip hnd hk hkx (by simp)]
    simp [hk, opT]
    exact th_kF hk
  · rw [look_zip_no (by simpa using hx) (by simp), look_zip_no (by simpa using hx) (by simp)]; rfl
theorem both_found {ns : List ByteArray} (hnd : ns.Nodup) (g : Nat → Tp) {p : Tp} (fp : flat p) (hp : mvs p = []) {θ : Int → Tp}
    (h : sbt θ (sub p (ns.zip ((List.range ns.length).map opT))) = sub p (ns.zip ((List.range ns.length).map g))) {i : Nat} (hi : i < ns.length) {u : Tp} (hu : fnd ns[i] p (sub p (ns.zip ((List.range ns.length).map g))) = some u) : θ ((i + 1 : Nat) : Int) = u := by
  have hx : ns[i] ∈ vsT p := Classical.byContradiction fun hx => by rw [fnd_off hx] at hu; cases hu
  rw [← h, sub_sbv fp, sbt_sbv fp hp, fnd_on hx] at hu
  injection hu with hu
  rw [look_zip hnd hi rfl (by simp)] at hu
  simp [hi, opT] at hu
  exact hu
end Go.Proofs.YtigifkjcghkiiaaDoor

namespace Go.Proofs.YtigifkjcghkiiaaDoor
open Go Fp
set_option maxRecDepth 10000
set_option maxHeartbeats 16000000
set_option linter.unusedVariables false
set_option linter.unusedSimpArgs false

/-- What is put, by places, without numbers. -/
def putH (f : List Int → Tp) (by' : List (List Int)) (i : Nat) : Tp := if i < by'.length then grd (f (by'.getD i [])) else .con sI
theorem putH_snoc (g : Nat → Tp) (k : Nat) : eTys ((List.range k).map g) ++ [eTy (g k)] = eTys ((List.range (k + 1)).map g) := by
  rw [List.range_succ]; simp [eTys]

theorem unifyBoth_ok {l : List Int} (hl : l.length < 9223372036854775808) (hr : ∀ x ∈ l, InR x) {n : Int} (hn : InR n) {by' : List (List Int)} (hll : by'.length < 9223372036854775808) (hb : ∀ r ∈ by', (∀ x ∈ r, InR x) ∧ r.length < 9223372036854775808) :
    ACall Tryd.prog n_fuguelaw09_UnifyBoth [.sl (eIs l), .lit (.int .i64 n), .sl (eRows by')] (.sb true) := by
  obtain ⟨p0, hP, gp0, fp0, zp0⟩ := plain_ok hl hr
  obtain ⟨p, hpd⟩ : ∃ p, p = grd p0 := ⟨_, rfl⟩
  have hG := ground_ok p0
  rw [← hpd] at hG
  have gp : good p := hpd ▸ grd_good gp0
  have fp : flat p := hpd ▸ grd_flat fp0
  have zp : p.sz ≤ 193 := by rw [hpd, grd_sz]; exact zp0
  have mp : mvs p = [] := hpd ▸ grd_mvs p0
  obtain ⟨ns, hns, hnd, hs4, hN⟩ := Names_ok hn
  have hx : ∀ r : List Int, ∃ u : Tp, r ∈ by' → ACall Tryd.prog n_fugueref04_Plain [.sl (eIs r)] (eTy u) ∧ good u ∧ flat u ∧ u.sz ≤ 193 := fun r => by
    by_cases h : r ∈ by'
    · obtain ⟨u, h1, h2, h3, h4⟩ := plain_ok (hb r h).2 (hb r h).1
      exact ⟨u, fun _ => ⟨h1, h2, h3, h4⟩⟩
    · exact ⟨.no, fun h' => absurd h' h⟩
  obtain ⟨f, hf⟩ := Classical.axiomOfChoice hx
  have hel : (eRows by').length = by'.length := by simp [eRows]
  have hsl : (eSs ns).length = ns.length := by simp [eSs]
  have hget : ∀ k (h : k < by'.length), by'.getD k [] = by'[k] := fun k h => by rw [List.getD_eq_getElem?_getD, List.getElem?_eq_getElem h]; rfl
  obtain ⟨g, hgd⟩ : ∃ g, g = putH f by' := ⟨_, rfl⟩
  have hg : ∀ i, good (g i) ∧ flat (g i) ∧ (g i).sz ≤ 193 ∧ mvs (g i) = [] := fun i => by
    rw [hgd]
    unfold putH
    split
    · rename_i h
      obtain ⟨_, h2, h3, h4⟩ := hf (by'.getD i []) (by rw [hget i h]; exact List.getElem_mem _)
      exact ⟨grd_good h2, grd_flat h3, by rw [grd_sz]; exact h4, grd_mvs _⟩
    · exact ⟨by show _ ∈ small6; simp [small6, sI], trivial, by simp [Tp.sz], rfl⟩
  have hgt : ∀ k (h : k < by'.length), g k = grd (f by'[k]) := fun k h => by rw [hgd]; unfold putH; rw [if_pos h, hget k h]
  have hgf : ∀ k, ¬ k < by'.length → g k = .con sI := fun k h => by rw [hgd]; unfold putH; rw [if_neg h]
  clear hgd
  obtain ⟨us, hus⟩ : ∃ us, us = (List.range ns.length).map g := ⟨_, rfl⟩
  obtain ⟨os, hos⟩ : ∃ os, os = (List.range ns.length).map opT := ⟨_, rfl⟩
  have husl : us.length = ns.length := by simp [hus]
  have hosl : os.length = ns.length := by simp [hos]
  have husg : ∀ u ∈ us, good u ∧ flat u ∧ u.sz ≤ 193 := fun u hu => by
    rw [hus] at hu
    obtain ⟨i, _, rfl⟩ := List.mem_map.1 hu; exact ⟨(hg i).1, (hg i).2.1, (hg i).2.2.1⟩
  have hosg : ∀ u ∈ os, good u ∧ flat u ∧ u.sz ≤ 193 := fun u hu => by
    rw [hos] at hu
    obtain ⟨i, hi, rfl⟩ := List.mem_map.1 hu
    have hi : i < ns.length := by simpa using hi
    exact ⟨⟨i + 1, rfl, by omega⟩, trivial, by simp [Tp.sz, opT]⟩
  -- what is put, put: contract, and what it is
  have put : ∀ us : List Tp, us.length = ns.length → (∀ u ∈ us, good u ∧ flat u ∧ u.sz ≤ 193) → ACall Tryd.prog n_types_Subst [eTy p, .sl (eSs ns), .sl (eTys us)] (eTy (sub p (ns.zip us))) ∧ good (sub p (ns.zip us)) ∧ flat (sub p (ns.zip us)) ∧ (sub p (ns.zip us)).sz ≤ 100000 := fun us husl husg => by
    obtain ⟨ps, hps⟩ : ∃ ps : Env', ps = ns.zip us := ⟨_, rfl⟩
    have hps1 : ps.map (·.1) = ns := by rw [hps, List.map_fst_zip (by omega)]
    have hps2 : ps.map (·.2) = us := by rw [hps, List.map_snd_zip (by omega)]
    have hpl : ps.length = ns.length := by rw [← hps1]; simp
    have hpm : ∀ r ∈ ps, good r.2 ∧ flat r.2 ∧ r.2.sz ≤ 193 := fun r hr => husg _ (by rw [← hps2]; exact List.mem_map.2 ⟨r, hr, rfl⟩)
    have hfit : Fit 24 p ps := by
      have := dp_sz p
      exact ⟨good_low gp, fun r hr => good_low (hpm r hr).1, by omega, by omega, by omega, fun r hr => by have := (hpm r hr).2.2; omega⟩
    have hS := subst_ok p.sz p (Nat.le_refl _) 24 ps hfit
    unfold substSays eN eB at hS
    rw [hps1, hps2] at hS
    rw [← hps]
    refine ⟨hS, ?_, ?_, ?_⟩
    · rw [sub_sbv fp]
      refine sbv_good gp fp fun x hx => ?_
      cases h : look x ps with
      | none => exact hx
      | some u => exact (hpm _ (look_mem h)).1
    · rw [sub_sbv fp]
      refine sbv_flat (fun x => ?_) fp
      cases h : look x ps with
      | none => trivial
      | some u => exact (hpm _ (look_mem h)).2.1
    · have h1 := sbv_tsz (σ := fun x => (look x ps).getD (.var x)) (k := 193) (by decide) (fun x => by
        cases h : look x ps with
        | none => simp [tsz]
        | some u => have h2 := (hpm _ (look_mem h)).2.2; have := (sz_tsz u).2; simp only [Option.getD_some]; simp only at h2; omega) p fp
      rw [← sub_sbv fp] at h1
      have := (sz_tsz (sub p ps)).1
      have := (sz_tsz p).2
      omega
  obtain ⟨hS, gs, fs, zs⟩ := put us husl husg
  obtain ⟨hS2, go, fo, zo⟩ := put os hosl hosg
  have e2 := match_put (ns := ns) fp (ps := ns.zip us) (fun x hx => look_zip_no hx husl)
  obtain ⟨q, X, h1, hX, hXo, hM, _⟩ := match_both (by omega) hnd hs4 gp fp zp gs fs (by omega) (by rw [e2]; omega)
  have hq := h1.2 e2
  subst hq
  have hXo := hXo rfl
  have hXl : X.length = ns.length := by rw [hXo]; simp [outL]
  have hsub := both_sub hnd g (fun i => (hg i).2.2.2) fp mp
  rw [← hos, ← hus] at hsub
  obtain ⟨e, la, l1, hS1, hl1, hok1, _, hU⟩ := unify_law sok_nil go gs fo fs
  rw [← hsub] at hS1
  obtain ⟨he, hfl⟩ := least_law (K := kF g ns.length) (fun r hr => by obtain ⟨i, _, rfl⟩ := List.mem_map.1 hr; exact (hg i).2.2.2) (fun r hr => by obtain ⟨i, _, rfl⟩ := List.mem_map.1 hr; have := (hg i).2.2.1; simp only; omega) hS1
  subst he
  rw [if_pos rfl] at hl1
  subst hl1
  rw [hsub, fl_sbt] at hfl
  have hap : ∀ i (hi : i < ns.length) u, fnd ns[i] p (sub p (ns.zip us)) = some u → fl l1 (opT i) = u := fun i hi u hu => by
    show sg l1 ((i + 1 : Nat) : Int) = u
    rw [hos, hus] at hfl
    rw [hus] at hu
    exact both_found hnd g fp mp hfl hi hu
  have hXi : ∀ i (hi : i < X.length), X[i].form ≠ 0 → fl l1 (opT i) = X[i] := fun i hi hne => by
    have hi' : i < ns.length := by omega
    have e : X[i] = (fnd ns[i] p (sub p (ns.zip us))).getD .no := by simp only [hXo, outL, List.getElem_map]
    cases hc : fnd ns[i] p (sub p (ns.zip us)) with
    | none => rw [hc] at e; rw [e] at hne; exact absurd rfl hne
    | some u => rw [hc] at e; rw [e]; exact hap i hi' u hc
  have hSz := rsize_ok 400000 (by decide) (sub p (ns.zip us)) (by omega)
  have hA := fun b1 b2 k i => Apply_ok hok1.ok (opT i) b1 b2 k
  have hosi : ∀ i (h : i < os.length), os[i] = opT i := fun i h => by simp [hos]
  have tail : ∀ b1 b2, Wsem Tryd.prog (sndC (sndC (sndC (sndC (sndC (sndC (sndC (sndC (bodyC Tryd.f7))))))))) (mkC { vs := [(7, .v (sP b1)), (8, .box 0 (eTy p)), (9, .v (.sl (eSs ns))), (10, .v (.sl (eTys us))), (11, .v (.sl (eTys os)))], hp := stH b1 b2 (ns.length : Nat) [] })
      (fun c => RetP tt Tryd.f7.results.toList (.sb true) (den c)) (fun _ _ => False) (fun c => RetP tt Tryd.f7.results.toList (.sb true) (den c)) := fun b1 b2 => by
    refine Wsem.of ttok mixed ?_
    refine .inl ⟨_, hS, ?_⟩
    refine .inl ⟨_, hSz, ?_⟩
    refine ⟨fun h => ?_, fun h => ?_⟩
    · refine .inl ⟨_, lives_ok, ?_⟩
      exact rfl
    refine .inl ⟨_, hM, ?_⟩
    refine .inl ⟨_, hS2, ?_⟩
    refine .inr (.inr (.inr ⟨[0, 1], stH b1 b2 (ns.length : Nat) [], stH b1 b2 (ns.length : Nat) l1, _, rfl, by decide, rfl, hU rfl b1 b2 _, ?_⟩))
    refine ⟨by kernel_rfl, ?_⟩
    refine ⟨fun hbs => ?_, fun hbs => ?_⟩ <;> first | (exfalso; revert hbs; (simp); done) | skip
    refine ⟨fun hbs => ?_, fun hbs => ?_⟩ <;> first | (exfalso; revert hbs; (simp); done) | skip
    have hXl' : (eTys X).length = X.length := by simp [eTys]
    have hosl' : (eTys os).length = os.length := by simp [eTys]
    refine ⟨fun hbs => ?_, fun hbs => ?_⟩ <;> first | (exfalso; revert hbs; (simp [hXl', hosl', hXl, hosl]); done) | skip
    refine ⟨{k : Nat // k ≤ os.length}, fun k => { vs := [(7, .v (sP b1)), (11, .v (.sl (eTys os))), (15, .v (.sl (eTys X))), (18, .v (.lit (.int .i64 (k.1 : Nat))))], hp := stH b1 b2 (ns.length : Nat) l1 },
      fun k => os.length - k.1, ⟨0, Nat.zero_le _⟩, ⟨⟨rfl, rfl, rfl, rfl, trivial⟩, trivial, rfl⟩, ?_⟩
    rintro ⟨k, hk⟩
    refine ⟨fun h => ?_, fun h => ?_⟩
    · have h : k < os.length := by simp [hosl'] at h; omega
      have hkX : k < X.length := by omega
      have hw := wrap_succ (k := k) (by omega)
      refine ⟨_, by omega, getT hkX, rfl, ?_⟩
      by_cases h0 : X[k].form = 0
      · refine ⟨fun hbs => ?_, fun hbs => ?_⟩ <;> first | (exfalso; revert hbs; (simp [h0]); done) | skip
        refine ⟨by kernel_rfl, ?_⟩
        refine ⟨⟨k + 1, h⟩, (show os.length - (k + 1) < os.length - k by omega), ⟨rfl, rfl, rfl, svc hw, trivial⟩, trivial, rfl⟩
      · refine ⟨fun hbs => ?_, fun hbs => ?_⟩ <;> first | (exfalso; revert hbs; (simp [h0]); done) | skip
        have hAk := hA b1 b2 (ns.length : Nat) k
        rw [hXi k hkX h0, ← hosi k h] at hAk
        refine ⟨_, by omega, getT h, rfl, ?_⟩
        refine .inr (.inr (.inl ⟨[0, 1], stH b1 b2 (ns.length : Nat) l1, _, rfl, by decide, hAk, ?_⟩))
        refine ⟨_, by omega, getT hkX, rfl, ?_⟩
        refine .inl ⟨_, equal_ok _ _, ?_⟩
        refine ⟨by kernel_rfl, ?_⟩
        refine ⟨fun hbs => ?_, fun hbs => ?_⟩ <;> first | (exfalso; revert hbs; (simp); done) | skip
        refine ⟨⟨k + 1, h⟩, (show os.length - (k + 1) < os.length - k by omega), ⟨rfl, rfl, rfl, svc hw, trivial⟩, trivial, rfl⟩
    · refine .inl ⟨_, lives_ok, ?_⟩
      exact rfl
  refine acall_of_wsem ttok mixed Tryd.func7 rfl (by rfl) (Nat.le_of_ble_eq_true rfl) (by kernel_rfl) ?_
  refine Wsem.seq ttok mixed ?_
  refine Wsem.seq ttok mixed ?_
  refine .inr (.inr (.inr (.inr (.inr (.inl ⟨[], [], [], _, rfl, List.nodup_nil, rfl, new_ok, ?_⟩)))))
  rintro r w hp ⟨rfl, b1, b2, rfl, rfl⟩
  refine Wsem.seq ttok mixed ?_
  refine Wsem.seq ttok mixed ?_
  refine .inl ⟨_, hP, ?_⟩
  refine .inl ⟨_, hG, ?_⟩
  refine Wsem.seq ttok mixed ?_
  refine .inl ⟨_, hN, ?_⟩
  refine Wsem.seq ttok mixed ?_
  refine Wsem.seq ttok mixed ?_
  refine Wsem.seq ttok mixed ?_
  refine ⟨{k : Nat // k ≤ ns.length}, fun k => { vs := [(2, .v (.sl (eRows by'))), (7, .v (sP b1)), (8, .box 0 (eTy p)), (9, .v (.sl (eSs ns))), (10, .v (.sl (eTys ((List.range k.1).map g)))), (11, .v (.sl (eTys ((List.range k.1).map opT)))), (12, .v (.lit (.int .i64 (k.1 : Nat))))], ow := [(10, 0, 5), (11, 0, 5)], hp := stH b1 b2 (k.1 : Nat) [] },
    fun k => ns.length - k.1, ⟨0, Nat.zero_le _⟩, ⟨⟨rfl, rfl, rfl, rfl, rfl, rfl, rfl, trivial⟩, ⟨trivial, trivial, trivial⟩, rfl⟩, ?_⟩
  rintro ⟨k, hk⟩
  have hsn := putH_snoc g k
  have hso := putH_snoc opT k
  refine ⟨fun h => ?_, fun h => ?_⟩
  · have h : k < ns.length := by simp [hsl] at h; omega
    have hF := fresh_ok [] b1 b2 k (by omega)
    have hw := wrap_succ (k := k) (by omega)
    refine ⟨fun h3 => ?_, fun h3 => ?_⟩
    · have h3 : k < by'.length := by simp [hel] at h3; omega
      rw [hgt k h3] at hsn
      refine ⟨.sl (eIs by'[k]), by omega, by simp [eRows, h3], rfl, ?_⟩
      refine .inl ⟨_, (hf _ (List.getElem_mem h3)).1, ?_⟩
      refine .inl ⟨_, ground_ok _, ?_⟩
      refine ⟨by simp [eTys]; omega, uniT _, uniT [_], ?_⟩
      refine .inr (.inr (.inr (.inl ⟨[0, 1], stH b1 b2 (k : Nat) [], stH b1 b2 ((k + 1 : Nat) : Int) [], _, rfl, by decide, rfl, hF, ?_⟩)))
      refine ⟨by simp [eTys]; omega, uniT _, uniT [opT k], ?_⟩
      refine ⟨⟨k + 1, h⟩, (show ns.length - (k + 1) < ns.length - k by omega), ⟨rfl, rfl, rfl, rfl, ?_, ?_, svc hw, trivial⟩, ⟨rfl, rfl, trivial⟩, rfl⟩
      · exact congrArg (fun l => SV.v (AV.sl l)) hsn
      · exact congrArg (fun l => SV.v (AV.sl l)) hso
    · have h3 : ¬ k < by'.length := by simp [hel] at h3; omega
      rw [hgf k h3] at hsn
      refine ⟨by simp [eTys]; omega, uniT _, uniT [.con sI], ?_⟩
      refine .inr (.inr (.inr (.inl ⟨[0, 1], stH b1 b2 (k : Nat) [], stH b1 b2 ((k + 1 : Nat) : Int) [], _, rfl, by decide, rfl, hF, ?_⟩)))
      refine ⟨by simp [eTys]; omega, uniT _, uniT [opT k], ?_⟩
      refine ⟨⟨k + 1, h⟩, (show ns.length - (k + 1) < ns.length - k by omega), ⟨rfl, rfl, rfl, rfl, ?_, ?_, svc hw, trivial⟩, ⟨rfl, rfl, trivial⟩, rfl⟩
      · exact congrArg (fun l => SV.v (AV.sl l)) hsn
      · exact congrArg (fun l => SV.v (AV.sl l)) hso
  · have h : k = ns.length := by simp [hsl] at h; omega
    subst h
    rw [← hus, ← hos]
    refine Wsem.cut _ ?_ (tail b1 b2)
    exact ⟨⟨rfl, rfl, rfl, rfl, rfl, trivial⟩, trivial, rfl⟩
end Go.Proofs.YtigifkjcghkiiaaDoor
