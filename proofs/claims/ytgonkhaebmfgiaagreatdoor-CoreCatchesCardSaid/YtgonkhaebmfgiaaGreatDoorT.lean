/- What is free in what is put together; how much types there are. Plain; the law's lists. No condition. -/
import Derived.Test.YtgonkhaebmfgiaaGreatDoorR
import Derived.Test.YtgonkhaebmfgiaaGreatDoorN
import Derived.Test.YtgonkhaebmfgiaaGreatDoorO
set_option linter.unusedSimpArgs false
set_option linter.unusedVariables false
namespace Go.Proofs.YtgonkhaebmfgiaaGreatDoor
open Go Fp
set_option maxRecDepth 10000
set_option maxHeartbeats 8000000
set_option linter.unusedVariables false
def zb : Db → Nat
 | .app a b => 1 + zb a + zb b
 | .all a => 1 + zb a
 | _ => 1
theorem zb_db (t : Tp) : ∀ e, zb (db t e) = t.sz := by
 induction t with
 | app a b iha ihb => intro e; simp only [db, zb, Tp.sz, iha, ihb]
 | all s a ih => intro e; simp only [db, zb, Tp.sz, ih]
 | var s => intro e; simp only [db, Tp.sz]; split <;> rfl
 | _ => intro e; rfl
def tnD : DC → Nat
 | .nil => 0
 | .bv _ => 1
 | .fr _ => 1
 | .node _ _ _ t g => zb t + tnD g
 | .kid p r => tnD p + tnD r
 | .bind t p r => zb t + tnD p + tnD r
 | .alt _ _ _ _ p r => tnD p + tnD r
theorem tnD_dbc (c : Cr) : ∀ (e d : List ByteArray), c.Ok → tnD (dbc c e d) = c.tn := by
 induction c with
 | nil => intro e d _; rfl
 | node f n s t g ih =>
  intro e d ho
  by_cases hf : f = 1
  ·obtain ⟨h1, h2⟩ := ho.2.1 hf
   subst h1; subst h2; subst hf
   rw [dbc_var1]
   split <;> rfl
  ·rw [dbc, if_neg hf]
   simp only [tnD, zb_db, Cr.tn, ih _ _ (node_lst ho).2]
 | kid p r ihp ihr => intro e d ho; simp only [dbc, tnD, Cr.tn, ihp _ _ ho.2.2.1, ihr _ _ ho.2.2.2]
 | bind x t p r ihp ihr => intro e d ho; simp only [dbc, tnD, Cr.tn, zb_db, ihp _ _ ho.2.2.2.1, ihr _ _ ho.2.2.2.2]
 | alt f n s vs p r ihp ihr => intro e d ho; simp only [dbc, tnD, Cr.tn, ihp _ _ ho.2.2.2.2.2.1, ihr _ _ ho.2.2.2.2.2.2]
theorem tnD_sb (d : DC) (x : ByteArray) (b : DC) (σ : ByteArray → DC) (hx : σ x = b) (ho : ∀ y, y ≠ x → σ y = .fr y) : tnD (sbD σ .fr d) + occN d x = tnD d + occN d x * tnD b := by
 induction d with
 | fr s =>
  by_cases hs : s = x
  ·subst hs; simp only [sbD, hx, occN, tnD, if_pos]; omega
  ·simp only [sbD, ho s hs, occN, tnD, if_neg (Ne.symm hs)]; omega
 | node f n s t g ih => simp only [sbD, occN, tnD, sb_fr]; omega
 | kid p r ihp ihr => simp only [sbD, occN, tnD, Nat.add_mul]; omega
 | bind t p r ihp ihr => simp only [sbD, occN, tnD, sb_fr, Nat.add_mul]; omega
 | alt f n s k p r ihp ihr => simp only [sbD, occN, tnD, Nat.add_mul]; omega
 | _ => simp [sbD, occN, tnD]
theorem occV_sbn (D : DC) (σ : ByteArray → DC) (y : ByteArray) : occV (sbD σ .fr D) y ↔ occV D y ∨ ∃ z, 0 < occN D z ∧ occV (σ z) y := by
 induction D with
 | nil => simp [sbD, occV, occN]
 | bv i => simp [sbD, occV, occN]
 | fr s =>
  simp only [sbD, occV, occN]
  constructor
  ·intro h; exact .inr ⟨s, by simp, h⟩
  ·rintro (h | ⟨z, h1, h2⟩)
   ·cases h
   ·by_cases hz : z = s
    ·subst hz; exact h2
    ·simp [hz] at h1
 | node f n s t g ih => simp only [sbD, occV, occN, sb_fr, ih, or_assoc]
 | kid p r ihp ihr =>
  simp only [sbD, occV, occN, ihp, ihr]
  constructor
  ·rintro ((h | ⟨z, h1, h2⟩) | (h | ⟨z, h1, h2⟩))
   ·exact .inl (.inl h)
   ·exact .inr ⟨z, by omega, h2⟩
   ·exact .inl (.inr h)
   ·exact .inr ⟨z, by omega, h2⟩
  ·rintro ((h | h) | ⟨z, h1, h2⟩)
   ·exact .inl (.inl h)
   ·exact .inr (.inl h)
   ·by_cases hz : 0 < occN p z
    ·exact .inl (.inr ⟨z, hz, h2⟩)
    ·exact .inr (.inr ⟨z, by omega, h2⟩)
 | bind t p r ihp ihr =>
  simp only [sbD, occV, occN, ihp, ihr, sb_fr]
  constructor
  ·rintro (h | (h | ⟨z, h1, h2⟩) | (h | ⟨z, h1, h2⟩))
   ·exact .inl (.inl h)
   ·exact .inl (.inr (.inl h))
   ·exact .inr ⟨z, by omega, h2⟩
   ·exact .inl (.inr (.inr h))
   ·exact .inr ⟨z, by omega, h2⟩
  ·rintro ((h | h | h) | ⟨z, h1, h2⟩)
   ·exact .inl h
   ·exact .inr (.inl (.inl h))
   ·exact .inr (.inr (.inl h))
   ·by_cases hz : 0 < occN p z
    ·exact .inr (.inl (.inr ⟨z, hz, h2⟩))
    ·exact .inr (.inr (.inr ⟨z, by omega, h2⟩))
 | alt f n s k p r ihp ihr =>
  simp only [sbD, occV, occN, ihp, ihr]
  constructor
  ·rintro ((h | ⟨z, h1, h2⟩) | (h | ⟨z, h1, h2⟩))
   ·exact .inl (.inl h)
   ·exact .inr ⟨z, by omega, h2⟩
   ·exact .inl (.inr h)
   ·exact .inr ⟨z, by omega, h2⟩
  ·rintro ((h | h) | ⟨z, h1, h2⟩)
   ·exact .inl (.inl h)
   ·exact .inr (.inl h)
   ·by_cases hz : 0 < occN p z
    ·exact .inl (.inr ⟨z, hz, h2⟩)
    ·exact .inr (.inr ⟨z, by omega, h2⟩)
theorem sbD_none (D : DC) (x : ByteArray) (σ : ByteArray → DC) (ho : ∀ y, y ≠ x → σ y = .fr y) : occN D x = 0 → sbD σ .fr D = D := by
 induction D with
 | fr s =>
  intro h
  by_cases hs : s = x
  ·subst hs; simp [occN] at h
  ·exact ho s hs
 | node f n s t g ih => intro h; simp only [sbD, sb_fr, ih h]
 | kid p r ihp ihr => intro h; simp only [occN] at h; simp only [sbD, ihp (by omega), ihr (by omega)]
 | bind t p r ihp ihr => intro h; simp only [occN] at h; simp only [sbD, sb_fr, ihp (by omega), ihr (by omega)]
 | alt f n s k p r ihp ihr => intro h; simp only [occN] at h; simp only [sbD, ihp (by omega), ihr (by omega)]
 | _ => intro h; rfl
section
variable {c b : Cr} {x : ByteArray} (hc : Sm c) (hb : Sm b)
include hc hb
theorem sb_fv (y : ByteArray) : y ∈ (sbF 590 c x b).fv ↔ (y ≠ x ∧ y ∈ c.fv) ∨ (x ∈ c.fv ∧ y ∈ b.fv) := sb_free1 (sbF_db 590) hc.ok hc.n hb.ok hb.n hc.sz y
theorem sb_tv (y : ByteArray) : y ∈ (sbF 590 c x b).tv ↔ y ∈ c.tv ∨ (x ∈ c.fv ∧ y ∈ b.tv) := by
 have h0 := sb_dbc hc.ok hc.n hb.ok hb.n hc.sz (x := x)
 have h1 := occV_dbc (sbF 590 c x b) [] [] y (sbF_all 590 c x b hc.n hc.ok hb.n hb.ok).2.1
 have h2 := occV_dbc c [] [] y hc.ok
 have h3 := occV_dbc b [] [] y hb.ok
 rw [h0, occV_sbn] at h1
 simp only [List.not_mem_nil, not_false_eq_true, and_true] at h1 h2 h3
 rw [← h1, h2]
 constructor
 ·rintro (h | ⟨z, h4, h5⟩)
  ·exact .inl h
  ·unfold sgO at h5
   by_cases hz : z = x
   ·subst hz
    rw [if_pos rfl, h3] at h5
    exact .inr ⟨((occN_dbc c [] [] z).1 h4).1, h5⟩
   ·rw [if_neg hz] at h5; exact absurd h5 (by simp [occV])
 ·rintro (h | ⟨h4, h5⟩)
  ·exact .inl h
  ·exact .inr ⟨x, (occN_dbc c [] [] x).2 ⟨h4, List.not_mem_nil⟩, by unfold sgO; rw [if_pos rfl, h3]; exact h5⟩
theorem sb_none (h : x ∉ c.fv) : dbc (sbF 590 c x b) [] [] = dbc c [] [] := by
 rw [sb_dbc hc.ok hc.n hb.ok hb.n hc.sz]
 refine sbD_none _ x (sgO x b) (fun y hy => if_neg hy) ?_
 have h1 := occN_dbc c [] [] x
 cases h2 : occN (dbc c [] []) x with
 | zero => rfl
 | succ k => exact absurd (h1.1 (by omega)).1 h
theorem sb_tn : (sbF 590 c x b).tn ≤ 590 + 590 * 590 := by
 have h := tnD_sb (dbc c [] []) x (dbc b [] []) (sgO x b) (if_pos rfl) (fun y hy => if_neg hy)
 rw [← sb_dbc hc.ok hc.n hb.ok hb.n hc.sz, tnD_dbc _ _ _ (sbF_all 590 c x b hc.n hc.ok hb.n hb.ok).2.1, tnD_dbc _ _ _ hc.ok, tnD_dbc _ _ _ hb.ok] at h
 have h1 := wt_tn c
 have h2 := wt_tn b
 have h3 := hc.wt
 have h4 := hb.wt
 have h5 := oft_le hc.ok x
 have h6 := hc.sz
 have h7 : oft c x * b.tn ≤ 590 * 590 := Nat.mul_le_mul (by omega) (by omega)
 unfold oft at h7
 omega
end
def butL (l : List ByteArray) (s : ByteArray) : List ByteArray := l.filter fun y => decide (y ≠ s)
theorem but_ok (l : List ByteArray) (s : ByteArray) (hl : l.length ≤ 1000000) : CallsG Tryz.prog (fnv 50) [] [.sl (eSs l), str s] [] fun r o h => r = .sl (eSs (butL l s)) ∧ o = 2 ∧ h = [] := by
 have el : (eSs l).length = l.length := by simp [eSs]
 refine callsG_of_wsem (first := []) (cap := []) ttok mixed Tryz.func50 rfl (by rfl) rfl (Nat.le_of_ble_eq_true rfl) (by kernel_rfl) ?_
 refine Wsem.of ttok mixed ?_
 refine ⟨{k : Nat // k ≤ l.length}, fun k => { vs := [(0, .v (.sl (eSs l))), (1, .v (str s)), (5, .v (.sl (eSs (butL (l.take k.1) s)))), (6, sv (k.1 : Nat))], ow := [(5, 0, 2)] }, fun k => l.length - k.1, ⟨0, Nat.zero_le _⟩, ⟨⟨rfl, rfl, rfl, rfl, trivial⟩, ⟨trivial, trivial⟩, rfl⟩, ?_⟩
 rintro ⟨k, hk⟩
 refine ⟨fun h => ?_, fun h => ?_⟩
 ·have h : k < l.length := by have h := of_decide_eq_true h; rw [el] at h; simp only at h; omega
  have hg : (eSs l)[k]? = some (str l[k]) := by simp [eSs, List.getElem?_eq_getElem h]
  have ht : butL (l.take (k + 1)) s = butL (l.take k) s ++ (if l[k] = s then [] else [l[k]]) := by
   unfold butL
   rw [← List.take_append_getElem h, List.filter_append]
   congr 1
   by_cases hs : l[k] = s <;> simp [hs]
  have hlen : (butL (l.take k) s).length ≤ k := by
   have := List.length_filter_le (fun y => decide (y ≠ s)) (l.take k)
   unfold butL; simp only [List.length_take] at this; omega
  refine ⟨str l[k], by omega, hg, rfl, ?_⟩
  refine ⟨fun h2 => ?_, fun h2 => ?_⟩
  ·have h2 : ¬ l[k] = s := by simpa using h2
   refine ⟨str l[k], by omega, hg, rfl, ?_⟩
   refine ⟨by show (eSs (butL (l.take k) s)).length + 1 ≤ _; simp [eSs]; omega, uniS _, uni1 rfl, ?_⟩
   refine ⟨⟨k + 1, h⟩, by simp; omega, ⟨rfl, rfl, ?_, svc (wrap_succ (k := k) (by omega)), trivial⟩, ⟨rfl, trivial⟩, rfl⟩
   show SV.v (.sl (eSs (butL (l.take k) s) ++ [str l[k]])) = SV.v (.sl (eSs (butL (l.take (k + 1)) s)))
   rw [ht, if_neg h2]; simp [eSs]
  ·have h2 : l[k] = s := by simpa using h2
   refine ⟨⟨k + 1, h⟩, by simp; omega, ⟨rfl, rfl, ?_, svc (wrap_succ (k := k) (by omega)), trivial⟩, ⟨rfl, trivial⟩, rfl⟩
   show SV.v (.sl (eSs (butL (l.take k) s))) = SV.v (.sl (eSs (butL (l.take (k + 1)) s)))
   rw [ht, if_pos h2, List.append_nil]
 ·have h : k = l.length := by have h := of_decide_eq_false h; rw [el] at h; simp only at h; omega
  subst h
  rw [List.take_length]
  exact ⟨rfl, rfl, rfl⟩
theorem all_ok (a b : List ByteArray) (ha : a.length < 1000000000) (hb : b.length ≤ 100000000) (h : ∀ x ∈ b, x ∈ a) : ACall Tryz.prog 51 [.sl (eSs a), .sl (eSs b)] (.sb true) := by
 have el : (eSs b).length = b.length := by simp [eSs]
 refine acall_of_wcx ttok mixed Tryz.func51 rfl (by rfl) (Nat.le_of_ble_eq_true rfl) (by kernel_rfl) ?_
 refine ⟨{k : Nat // k ≤ b.length}, fun k => { vs := [(0, .v (.sl (eSs a))), (1, .v (.sl (eSs b))), (5, sv (k.1 : Nat))] }, fun k => b.length - k.1, ⟨0, Nat.zero_le _⟩, ⟨⟨rfl, rfl, rfl, trivial⟩, trivial, rfl⟩, ?_⟩
 rintro ⟨k, hk⟩
 refine ⟨fun h0 => ?_, fun h0 => ?_⟩
 ·have h0 : k < b.length := by have h := of_decide_eq_true h0; rw [el] at h; simp only at h; omega
  have hg : (eSs b)[k]? = some (str b[k]) := by simp [eSs, List.getElem?_eq_getElem h0]
  refine ⟨str b[k], by omega, hg, rfl, ?_⟩
  have hm := has_ok (l := a) (s := b[k]) (by omega)
  rw [memb_iff.2 (h _ (List.getElem_mem h0))] at hm
  refine .inl ⟨_, hm, ?_⟩
  refine ⟨fun h => absurd h (by decide), fun _ => ?_⟩
  exact ⟨⟨k + 1, h0⟩, by simp; omega, ⟨rfl, rfl, svc (wrap_succ (k := k) (by omega)), trivial⟩, trivial, rfl⟩
 ·exact rfl
set_option maxHeartbeats 16000000
theorem coreCatches_ok {l0 l1 : List Int} {n : Int} (hl0 : l0.length < 9223372036854775808) (hr0 : ∀ x ∈ l0, InR x) (hn : InR n) (hl1 : l1.length < 9223372036854775808) (hr1 : ∀ x ∈ l1, InR x) : ACall Tryz.prog 11 [.sl (eIs l0), .lit (.int .i64 n), .sl (eIs l1)] (.sb true) := by
 obtain ⟨a, ha, hpa, hA⟩ := made18_ok hl0 hr0
 obtain ⟨b, hb, hpb, hB⟩ := made18_ok hl1 hr1
 obtain ⟨s, _, hS⟩ := lawName18_ok hn
 have hSub := substN_ok 590 a s b ha ha.sz hb
 obtain ⟨w, wd⟩ := ha.sbSa (pk_v0 a hpa) hb (pk_v0 b hpb) s
 obtain ⟨aa, ad⟩ := ha.sa (pk_v0 a hpa)
 have hfv := fun y => sb_fv (x := s) ha hb y
 have htv := fun y => sb_tv (x := s) ha hb y
 have htn := sb_tn (x := s) ha hb
 have hno : s ∉ a.fv → ACall Tryz.prog n_core_Same [eC (sbF 590 a s b), eC a] (.sb true) := fun h => by
  have h1 := Same18_ok w aa (by omega)
  rw [decide_eq_true (sb_none (x := s) ha hb h)] at h1
  exact h1
 have hsm := sb_small (x := s) ha hb
 have hcl := fv_len (sbF 590 a s b)
 have hct := tv_len (sbF 590 a s b)
 have hc1 := sz_posC w.n
 generalize sbF 590 a s b = c at hSub w wd hfv htv htn hno hcl hct hc1 hsm
 have hcz := w.sz
 have faz := ha.sz
 have fbz := hb.sz
 have fat := Nat.le_trans (wt_tn a) ha.wt
 have fbt := Nat.le_trans (wt_tn b) hb.wt
 have hal := fv_len a
 have hbl := fv_len b
 have hatl := tv_len a
 have hbtl := tv_len b
 have Fa := coreFree_ok ha.n ha.ok ha.gd.few (by omega)
 have Fb := coreFree_ok hb.n hb.ok hb.gd.few (by omega)
 have Fc := coreFree_ok w.n w.ok w.few w.sz
 have Ta := coreTypesF_ok ha.n ha.ok (by omega) (by omega)
 have Tb := coreTypes_ok hb.n hb.ok (by omega) (by omega)
 have Tc := coreTypes_ok w.n w.ok w.sz (by omega)
 have Zc := coreSizeN 890000 (by decide) c w.n w.ok w.few (by have := hsm.1; have := hsm.2; have := ha.sz; omega)
 have hBut := but_ok a.fv s (by omega)
 have hbuts : ∀ y, y ∈ butL a.fv s ↔ y ∈ a.fv ∧ y ≠ s := fun y => by unfold butL; rw [List.mem_filter]; simp
 have hbutl : (butL a.fv s).length ≤ a.fv.length := List.length_filter_le _ _
 generalize butL a.fv s = u at hBut hbuts hbutl
 have hHas := has_ok (l := a.fv) (s := s) (by omega)
 have tail : ∀ (W V : List ByteArray), (∀ y, y ∈ W ↔ y ∈ c.fv) → (∀ y, y ∈ V ↔ y ∈ c.tv) → W.length ≤ 10000 → V.length ≤ 10000 → Wsem Tryz.prog (sndC (sn4 (sn4 (bodyC Tryz.f11)))) (mkC { vs := [(10, .box 0 (eC c)), (12, .v (.sl (eSs W))), (13, .v (.sl (eSs V)))] }) (fun c2 => RetP tt Tryz.f11.results.toList (.sb true) (den c2)) (fun _ _ => False) (fun c2 => RetP tt Tryz.f11.results.toList (.sb true) (den c2)) := by
  intro W V hW hV hWl hVl
  refine Wsem.seq ttok mixed ?_
  refine .inl ⟨_, Fc, ?_⟩
  refine Wsem.seq ttok mixed ?_
  refine .inl ⟨_, Tc, ?_⟩
  refine Wsem.cut { vs := [(10, .box 0 (eC c)), (12, .v (.sl (eSs W))), (13, .v (.sl (eSs V))), (14, .v (.sl (eSs c.fv))), (15, .v (.sl (eSs c.tv)))] } ⟨⟨rfl, rfl, rfl, rfl, rfl, trivial⟩, trivial, rfl⟩ ?_
  refine Wsem.of ttok mixed ?_
  refine .inl ⟨_, all_ok c.fv W (by omega) (by omega) (fun y hy => (hW y).1 hy), ?_⟩
  refine ⟨fun _ => ?_, fun h => absurd h (by decide)⟩
  refine .inl ⟨_, all_ok W c.fv (by omega) (by omega) (fun y hy => (hW y).2 hy), ?_⟩
  refine ⟨fun _ => ?_, fun h => absurd h (by decide)⟩
  refine .inl ⟨_, all_ok c.tv V (by omega) (by omega) (fun y hy => (hV y).1 hy), ?_⟩
  refine ⟨fun _ => ?_, fun h => absurd h (by decide)⟩
  refine .inl ⟨_, all_ok V c.tv (by omega) (by omega) (fun y hy => (hV y).2 hy), ?_⟩
  refine ⟨fun _ => ?_, fun h => absurd h (by decide)⟩
  refine .inl ⟨_, Zc, ?_⟩
  refine ⟨fun _ => ?_, fun h => ?_⟩
  ·refine .inl ⟨_, lives_ok, ?_⟩
   exact rfl
  ·exfalso
   have h := of_decide_eq_false h
   omega
 refine acall_of_wsem ttok mixed Tryz.func11 rfl (by rfl) (Nat.le_of_ble_eq_true rfl) (by kernel_rfl) ?_
 refine Wsem.seq ttok mixed ?_
 refine Wsem.seq ttok mixed ?_
 refine .inl ⟨_, hA, ?_⟩
 refine Wsem.seq ttok mixed ?_
 refine .inl ⟨_, hB, ?_⟩
 refine Wsem.seq ttok mixed ?_
 refine .inl ⟨_, hS, ?_⟩
 refine Wsem.seq ttok mixed ?_
 refine .inl ⟨_, hSub, ?_⟩
 refine Wsem.seq ttok mixed ?_
 refine .inl ⟨_, Fa, ?_⟩
 refine Wsem.cut { vs := [(7, .box 0 (eC a)), (8, .box 0 (eC b)), (9, .v (str s)), (10, .box 0 (eC c)), (11, .v (.sl (eSs a.fv)))] } ⟨⟨rfl, rfl, rfl, rfl, rfl, trivial⟩, trivial, rfl⟩ ?_
 refine Wsem.seq ttok mixed ?_
 refine .inr (.inr (.inr (.inr (.inr (.inl ⟨[], [], [], _, rfl, List.nodup_nil, rfl, hBut, ?_⟩)))))
 rintro _ _ _ ⟨rfl, rfl, rfl⟩
 refine Wsem.cut { vs := [(7, .box 0 (eC a)), (8, .box 0 (eC b)), (9, .v (str s)), (10, .box 0 (eC c)), (11, .v (.sl (eSs a.fv))), (12, .v (.sl (eSs u)))], ow := [(12, 0, 2)] } ⟨⟨rfl, rfl, rfl, rfl, rfl, rfl, trivial⟩, ⟨rfl, trivial⟩, rfl⟩ ?_
 refine Wsem.seq ttok mixed ?_
 refine .inr (.inr (.inr (.inr (.inr (.inl ⟨[], [], [], _, rfl, List.nodup_nil, rfl, Ta, ?_⟩)))))
 rintro _ _ _ ⟨rfl, rfl, rfl⟩
 refine Wsem.cut { vs := [(7, .box 0 (eC a)), (8, .box 0 (eC b)), (9, .v (str s)), (10, .box 0 (eC c)), (11, .v (.sl (eSs a.fv))), (12, .v (.sl (eSs u))), (13, .v (.sl (eSs a.tv)))], ow := [(12, 0, 2), (13, 0, 2)] } ⟨⟨rfl, rfl, rfl, rfl, rfl, rfl, rfl, trivial⟩, ⟨rfl, rfl, trivial⟩, rfl⟩ ?_
 refine Wsem.seq ttok mixed ?_
 refine .inl ⟨_, hHas, ?_⟩
 refine ⟨fun h => ?_, fun h => ?_⟩
 ·have h : s ∈ a.fv := memb_iff.1 h
  refine .inl ⟨_, Fb, ?_⟩
  refine ⟨by show (eSs u).length + (eSs b.fv).length ≤ _; simp [eSs]; omega, uniS _, uniS _, ?_⟩
  refine .inl ⟨_, Tb, ?_⟩
  refine ⟨by show (eSs a.tv).length + (eSs b.tv).length ≤ _; simp [eSs]; omega, uniS _, uniS _, ?_⟩
  refine Wsem.cut _ ?_ (tail (u ++ b.fv) (a.tv ++ b.tv) (fun y => ?_) (fun y => ?_) (by rw [List.length_append]; omega) (by rw [List.length_append]; omega))
  ·refine ⟨⟨rfl, ?_, ?_, trivial⟩, trivial, rfl⟩
   ·show SV.v (.sl (eSs u ++ eSs b.fv)) = SV.v (.sl (eSs (u ++ b.fv)))
    simp [eSs]
   ·show SV.v (.sl (eSs a.tv ++ eSs b.tv)) = SV.v (.sl (eSs (a.tv ++ b.tv)))
    simp [eSs]
  ·rw [List.mem_append, hbuts, hfv]
   constructor
   ·rintro (⟨h1, h2⟩ | h1)
    ·exact .inl ⟨h2, h1⟩
    ·exact .inr ⟨h, h1⟩
   ·rintro (⟨h1, h2⟩ | ⟨_, h1⟩)
    ·exact .inl ⟨h2, h1⟩
    ·exact .inr h1
  ·rw [List.mem_append, htv]
   constructor
   ·rintro (h1 | h1)
    ·exact .inl h1
    ·exact .inr ⟨h, h1⟩
   ·rintro (h1 | ⟨_, h1⟩)
    ·exact .inl h1
    ·exact .inr h1
 ·have h : s ∉ a.fv := fun hm => by rw [memb_iff.2 hm] at h; cases h
  refine .inl ⟨_, hno h, ?_⟩
  refine ⟨fun h => absurd h (by decide), fun _ => ?_⟩
  refine Wsem.cut _ ?_ (tail u a.tv (fun y => ?_) (fun y => ?_) (by omega) (by omega))
  ·exact ⟨⟨rfl, rfl, rfl, trivial⟩, trivial, rfl⟩
  ·rw [hbuts, hfv]
   constructor
   ·rintro ⟨h1, h2⟩; exact .inl ⟨h2, h1⟩
   ·rintro (⟨h1, h2⟩ | ⟨h1, _⟩)
    ·exact ⟨h2, h1⟩
    ·exact absurd h1 h
  ·rw [htv]
   constructor
   ·exact fun h1 => .inl h1
   ·rintro (h1 | ⟨h1, _⟩)
    ·exact h1
    ·exact absurd h1 h
end Go.Proofs.YtgonkhaebmfgiaaGreatDoor
