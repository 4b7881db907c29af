/- What is the same has the same names free, in the same row. Plain; SameTexts. No condition. -/
import Derived.Test.YtgonkhaebmfgiaaGreatDoorR
import Derived.Test.YtgonkhaebmfgiaaGreatDoorO
set_option linter.unusedSimpArgs false
set_option linter.unusedVariables false
namespace Go.Proofs.YtgonkhaebmfgiaaGreatDoor
open Go Fp
set_option maxRecDepth 10000
set_option maxHeartbeats 4000000
set_option linter.unusedVariables false
def fvD : DC → List ByteArray
 | .fr s => [s]
 | .node _ _ _ _ g => fvD g
 | .kid p r => insAll no (fvD p) (fvD r)
 | .bind _ p r => insAll no (fvD p) (fvD r)
 | .alt _ _ _ _ p r => insAll no (fvD p) (fvD r)
 | _ => []
theorem ins_filter {Q : ByteArray → Bool} (l : List ByteArray) : ∀ out : List ByteArray, (insAll no out l).filter Q = insAll no (out.filter Q) (l.filter Q) := by
 induction l with
 | nil => intro out; rfl
 | cons s l ih =>
  intro out
  rw [insAll_cons, ih]
  unfold ins
  cases hq : Q s with
  | true =>
   rw [List.filter_cons_of_pos hq, insAll_cons]
   unfold ins
   by_cases hs : s ∈ out
   ·rw [if_pos (.inl hs), if_pos (.inl (List.mem_filter.2 ⟨hs, hq⟩))]
   ·rw [if_neg (by simp [hs, no]), if_neg (by simp [hs, no, List.mem_filter]), List.filter_append, List.filter_cons_of_pos hq]; rfl
  | false =>
   rw [List.filter_cons_of_neg (by simp [hq])]
   by_cases hs : s ∈ out
   ·rw [if_pos (.inl hs)]
   ·rw [if_neg (by simp [hs, no]), List.filter_append, List.filter_cons_of_neg (by simp [hq])]; simp
theorem ins_bar {P : ByteArray → Bool} (l : List ByteArray) (h : l.Nodup) : insAll P [] l = l.filter (fun y => !P y) := by
 have gen : ∀ (l out : List ByteArray), (out ++ l).Nodup → insAll P out l = out ++ l.filter (fun y => !P y) := by
  intro l
  induction l with
  | nil => intro out _; simp [insAll]
  | cons s l ih =>
   intro out hn
   have hs : s ∉ out := fun hm => (List.nodup_append.1 hn).2.2 s hm s List.mem_cons_self rfl
   rw [insAll_cons]
   unfold ins
   cases hp : P s with
   | true =>
    rw [if_pos (.inr rfl), List.filter_cons_of_neg (by simp [hp])]
    refine ih out ?_
    have := List.nodup_append.1 hn
    exact List.nodup_append.2 ⟨this.1, (List.nodup_cons.1 this.2.1).2, fun a ha b hb => this.2.2 a ha b (List.mem_cons_of_mem _ hb)⟩
   | false =>
    rw [if_neg (by simp [hs]), List.filter_cons_of_pos (by simp [hp]), ih (out ++ [s]) (by simpa using hn)]
    simp
 exact gen l [] (by simpa using h)
theorem fvD_dbc (c : Cr) : ∀ (e d : List ByteArray), fvD (dbc c e d) = c.fv.filter (fun y => !memb y e) := by
 induction c with
 | nil => intro e d; rfl
 | node f n s t g ih =>
  intro e d
  simp only [dbc]
  by_cases hf : f = 1
  ·subst hf
   rw [if_pos rfl, fv_var]
   cases hs : memb s e with
   | true => simp [fvD, hs]
   | false => simp [fvD, hs]
  ·rw [if_neg hf]
   show fvD (dbc g _ _) = _
   rw [ih]
   have e1 : (Cr.node f n s t g).fv = insAll (fun y => memb y (Cr.node f n s t g).names0) [] g.fv := by
    show (if f = 1 then [s] else _) = _
    rw [if_neg hf]
   rw [e1, ins_bar _ (fvC_nodup g), List.filter_filter]
   congr 1
   funext y
   rw [Bool.eq_iff_iff]
   simp only [Bool.not_eq_true', Bool.and_eq_true, memb, decide_eq_false_iff_not, List.mem_append, List.mem_reverse, not_or]
   exact and_comm
 | kid p r ihp ihr => intro e d; show insAll no (fvD (dbc p e d)) (fvD (dbc r e d)) = (insAll no p.fv r.fv).filter _; rw [ihp, ihr, ins_filter]
 | bind x t p r ihp ihr => intro e d; show insAll no (fvD (dbc p e d)) (fvD (dbc r e d)) = (insAll no p.fv r.fv).filter _; rw [ihp, ihr, ins_filter]
 | alt f n s vs p r ihp ihr =>
  intro e d
  show insAll no (fvD (dbc p (vs.reverse ++ e) d)) (fvD (dbc r e d)) = (insAll no (insAll (fun y => memb y vs) [] p.fv) r.fv).filter _
  rw [ihp, ihr, ins_filter, ins_bar _ (fvC_nodup p), List.filter_filter]
  congr 2
  funext y
  rw [Bool.eq_iff_iff]
  simp only [Bool.not_eq_true', Bool.and_eq_true, memb, decide_eq_false_iff_not, List.mem_append, List.mem_reverse, not_or]
  exact and_comm
theorem fv_same {a b : Cr} (h : dbc a [] [] = dbc b [] []) : a.fv = b.fv := by
 have h1 := fvD_dbc a [] []
 have h2 := fvD_dbc b [] []
 rw [h, h2] at h1
 have e : ∀ l : List ByteArray, l.filter (fun y => !memb y []) = l := fun l => by simp [memb]
 rw [e, e] at h1
 exact h1.symm
theorem pk_fv (c : Cr) : c.Pk → ∀ y ∈ c.fv, y ∈ W18 := by
 induction c with
 | nil => intro _ y hy; cases hy
 | node f n s t g ih =>
  intro h y hy
  by_cases hf : f = 1
  ·subst hf
   rw [fv_var] at hy
   rw [List.mem_singleton.1 hy]
   exact h.2.2.1
  ·exact ih h.2.2.2.2 y ((mem_fv_node hf).1 hy).1
 | kid p r ihp ih => intro h y hy; exact (mem_fv_kid.1 hy).elim (ihp h.1 y) (ih h.2 y)
 | bind x t p r ihp ih => intro h y hy; exact (mem_fv_bind.1 hy).elim (ihp h.2.2.1 y) (ih h.2.2.2 y)
 | alt f n s vs p r ihp ih => intro h y hy; exact (mem_fv_alt.1 hy).elim (fun h2 => ihp h.2.2.2.2.1 y h2.1) (ih h.2.2.2.2.2 y)
theorem texts_ok (l m : List ByteArray) (hl : l.length < 1000000000) (hm : m.length < 1000000000) : ACall Tryz.prog n_fugueref01_SameTexts [.sl (eSs l), .sl (eSs m)] (.sb (decide (l = m))) := by
 obtain ⟨r, hr⟩ : ∃ r, r = decide (l = m) := ⟨_, rfl⟩
 rw [← hr]
 have hrF : ¬ l = m → r = false := fun h => by rw [hr, decide_eq_false h]
 have el : (eSs l).length = l.length := by simp [eSs]
 have em : (eSs m).length = m.length := by simp [eSs]
 refine acall_of_wcx ttok mixed Tryz.func44 rfl (by rfl) (Nat.le_of_ble_eq_true rfl) (by kernel_rfl) ?_
 refine ⟨fun h => ?_, fun h => ?_⟩
 ·have hx := hrF fun h2 => by subst h2; simp at h
  rw [hx]; exact rfl
 have hlm : l.length = m.length := by rw [el, em] at h; simp at h; omega
 clear h
 refine ⟨{k : Nat // k ≤ l.length ∧ l.take k = m.take k}, fun k => { vs := [(0, .v (.sl (eSs l))), (1, .v (.sl (eSs m))), (5, sv (k.1 : Nat))] }, fun k => l.length - k.1, ⟨0, Nat.zero_le _, rfl⟩, ⟨⟨rfl, rfl, rfl, trivial⟩, trivial, rfl⟩, ?_⟩
 rintro ⟨k, hk, hkm⟩
 refine ⟨fun h => ?_, fun h => ?_⟩
 ·have h : k < l.length := by have h := of_decide_eq_true h; rw [el] at h; simp only at h; omega
  have h' : k < m.length := by omega
  refine ⟨str l[k], by omega, (by show (eSs l)[k]? = _; simp [eSs, List.getElem?_eq_getElem h]), rfl, ?_⟩
  refine ⟨str m[k], by omega, (by show (eSs m)[k]? = _; simp [eSs, List.getElem?_eq_getElem h']), rfl, ?_⟩
  refine ⟨by kernel_rfl, ?_⟩
  refine ⟨fun h2 => ?_, fun h2 => ?_⟩
  ·have hx := hrF fun h3 => by subst h3; simp at h2
   rw [hx]; exact rfl
  ·have h2 : l[k] = m[k] := by simpa using h2
   refine ⟨⟨k + 1, h, ?_⟩, by simp; omega, ⟨rfl, rfl, svc (wrap_succ (k := k) (by omega)), trivial⟩, trivial, rfl⟩
   rw [← List.take_append_getElem h, ← List.take_append_getElem h', hkm, h2]
 ·have h : k = l.length := by have h := of_decide_eq_false h; rw [el] at h; simp only at h; omega
  subst h
  have : l = m := by
   rw [List.take_length, hlm, List.take_length] at hkm; exact hkm
  have hx : r = true := by rw [hr, decide_eq_true this]
  rw [hx]; exact rfl
set_option maxHeartbeats 16000000
abbrev nNew : ByteArray := ⟨#[110, 101, 119, 39]⟩
theorem new_W : nNew ∉ W18 := by decide
theorem dbc_app (a c : Cr) (e d : List ByteArray) : dbc (appC a c) e d = .node 4 0 .empty .no (.kid (dbc a e d) (.kid (dbc c e d) .nil)) := rfl
theorem sb_congr {c p q : Cr} {y : ByteArray} (hc : Sm c) (hp : Sm p) (hq : Sm q) (h : dbc p [] [] = dbc q [] []) : dbc (sbF 590 c y p) [] [] = dbc (sbF 590 c y q) [] [] := by
 rw [sb_dbc hc.ok hc.n hp.ok hp.n hc.sz, sb_dbc hc.ok hc.n hq.ok hq.n hc.sz]
 have : sgO y p = sgO y q := by funext z; unfold sgO; rw [h]
 rw [this]
theorem sb_congr2 {c p q : Cr} {y : ByteArray} (hc : Sm c) (hp : Sm p) (hq : Sm q) (h : dbc p [] [] = dbc q [] []) : dbc (sbF 590 p y c) [] [] = dbc (sbF 590 q y c) [] [] := by
 rw [sb_dbc hp.ok hp.n hc.ok hc.n hp.sz, sb_dbc hq.ok hq.n hc.ok hc.n hq.sz, h]
theorem Sm.lamS {c : Cr} (h : Sm c) {s : ByteArray} (hw : c.wt ≤ 500) : Sm (lamC s (.con ⟨#[73, 110, 116]⟩) c) := ⟨rfl, ok_lam h.n h.ok, by simp only [Cr.wt, Tp.sz]; omega, ⟨trivial, h.low, trivial⟩⟩
theorem Sa.app {a c : Cr} (ha : Sa a) (hc : Sa c) (hs : a.sz + c.sz + 1 < 900000) : Sa (appC a c) := ⟨rfl, ok_app ha.n ha.ok hc.n hc.ok, ⟨ha.few, hc.few, trivial⟩, by have e : (appC a c).sz = 1 + (a.sz + (c.sz + 0)) := rfl; omega, ⟨fun h => absurd h (by decide), ha.v0, hc.v0, trivial⟩, ⟨by decide, ha.tz, hc.tz, trivial⟩⟩
theorem dp_app (a c : Cr) : dpC (appC a c) ≤ max (dpC a) (dpC c) := by simp [dpC, Cr.binds]
theorem coreAlike_ok {l0 l1 : List Int} {n m : Int} (hl0 : l0.length < 9223372036854775808) (hr0 : ∀ x ∈ l0, InR x) (hn : InR n) (hm : InR m) (hl1 : l1.length < 9223372036854775808) (hr1 : ∀ x ∈ l1, InR x) : ACall Tryz.prog 12 [.sl (eIs l0), .agg [.lit (.int .i64 n), .lit (.int .i64 m)], .sl (eIs l1)] (.sb true) := by
 obtain ⟨c, hc, hpk, hC⟩ := made18_ok hl0 hr0
 obtain ⟨b, hb, hpb, hbw, hB⟩ := made18w_ok (l := l1.take 20) (by rw [List.length_take]; omega) (fun x hx => hr1 x (List.mem_of_mem_take hx))
 have hbw : b.wt ≤ 276 := by
  have : ((l1.take 20).take 60).length ≤ 20 := by simp only [List.length_take]; omega
  omega
 obtain ⟨x, _, hX⟩ := lawName18_ok hn
 obtain ⟨y, _, hY⟩ := lawName18_ok hm
 have hI := con_mk ⟨#[73, 110, 116]⟩
 have htS : TyS (.con ⟨#[73, 110, 116]⟩) := ⟨trivial, by decide, by decide⟩
 have hN : nNew ∉ b.fv := fun h => new_W (pk_fv b hpb _ h)
 obtain ⟨hb2, hb2z⟩ := hb.sb 590 x nNew
 have hb2w : (sbF 590 b x (vr nNew)).wt = b.wt := (sbF_wt 590 b x nNew hb.n hb.ok hb.low).2.2.1
 have hSub := substN_ok 590 b x (vr nNew) hb hb.sz (vr_sm _)
 have hH := fun e d => (show dbc (lamC x (.con ⟨#[73, 110, 116]⟩) b) e d = dbc (lamC nNew (.con ⟨#[73, 110, 116]⟩) (sbF 590 b x (vr nNew))) e d by rw [dbc_lam, dbc_lam, ren_same hb.n hb.ok hb.sz hN])
 have hp : Sm (lamC x (.con ⟨#[73, 110, 116]⟩) b) := hb.lamS (by omega)
 have hq : Sm (lamC nNew (.con ⟨#[73, 110, 116]⟩) (sbF 590 b x (vr nNew))) := hb2.lamS (by omega)
 have hL1 := lam18_ok (s := x) htS hb.own
 have hL2 := lam18_ok (s := nNew) htS hb2.own
 have vb := pk_v0 b hpb
 have vc := pk_v0 c hpk
 have vp : (lamC x (.con ⟨#[73, 110, 116]⟩) b).V0 := ⟨fun h => absurd h (by decide), vb, trivial⟩
 have vq : (lamC nNew (.con ⟨#[73, 110, 116]⟩) (sbF 590 b x (vr nNew))).V0 := ⟨fun h => absurd h (by decide), sbF_v0 590 b x (vr nNew) vb ⟨fun _ => rfl, trivial⟩, trivial⟩
 generalize lamC x (.con ⟨#[73, 110, 116]⟩) b = p at hp hH hL1 vp
 generalize lamC nNew (.con ⟨#[73, 110, 116]⟩) (sbF 590 b x (vr nNew)) = q at hq hH hL2 vq
 obtain ⟨t, ht⟩ : ∃ t : Tp, t = .con ⟨#[73, 110, 116]⟩ := ⟨_, rfl⟩
 rw [← ht] at hI hL1 hL2 htS
 clear ht
 obtain ⟨ap, dp⟩ := hp.sa vp
 obtain ⟨aq, dq⟩ := hq.sa vq
 obtain ⟨ac, dc⟩ := hc.sa vc
 obtain ⟨ab, dbb⟩ := hb.sa vb
 have h0 := hH [] []
 have htz : t.sz < 900000 := htS.sz
 have hpz := hp.sz
 have hqz := hq.sz
 have hcz := hc.sz
 have hbz := hb.sz
 have s1 : ACall Tryz.prog n_core_Same [eC p, eC q] (.sb true) := sameB ap aq (by omega) (by simpa using h0)
 have s2 : ACall Tryz.prog n_core_Same [eC q, eC p] (.sb true) := sameB aq ap (by omega) (by simpa using h0.symm)
 have u1 := substN_ok 590 c y p hc hcz hp
 have u2 := substN_ok 590 c y q hc hcz hq
 have u3 := substN_ok 590 p y c hp hpz hc
 have u4 := substN_ok 590 q y c hq hqz hc
 obtain ⟨w1, w1d⟩ := hc.sbSa vc hp vp y
 obtain ⟨w2, w2d⟩ := hc.sbSa vc hq vq y
 obtain ⟨w3, w3d⟩ := hp.sbSa vp hc vc y
 obtain ⟨w4, w4d⟩ := hq.sbSa vq hc vc y
 have s3 : ACall Tryz.prog n_core_Same [eC (sbF 590 c y p), eC (sbF 590 c y q)] (.sb true) := sameB w1 w2 (by omega) (by simpa using sb_congr hc hp hq h0)
 have s5 : ACall Tryz.prog n_core_Same [eC (sbF 590 p y c), eC (sbF 590 q y c)] (.sb true) := sameB w3 w4 (by omega) (by simpa using sb_congr2 hc hp hq h0)
 have v1 := lam18_ok (s := y) htS hp.own
 have v2 := lam18_ok (s := y) htS hq.own
 have s4 : ACall Tryz.prog n_core_Same [eC (lamC y t p), eC (lamC y t q)] (.sb true) := sameB (ap.lam htz (by omega)) (aq.lam htz (by omega)) (by have := dp_lam y t p; omega) (by
  show if true = true then _ else _
  rw [if_pos rfl, dbc_lam, dbc_lam, hH])
 have v3 := app18_ok (f := p) (l := [c]) hp.own (fun d hd => by rw [List.mem_singleton.1 hd]; exact hc.own) (by simp)
 have v4 := app18_ok (f := q) (l := [c]) hq.own (fun d hd => by rw [List.mem_singleton.1 hd]; exact hc.own) (by simp)
 have s6 : ACall Tryz.prog n_core_Same [eC (appC p c), eC (appC q c)] (.sb true) := sameB (ap.app ac (by omega)) (aq.app ac (by omega)) (by have := dp_app p c; omega) (by
  show if true = true then _ else _
  rw [if_pos rfl, dbc_app, dbc_app, hH])
 have zb := coreSize_ok hb
 have zc := coreSize_ok hc
 have fb := coreFree_ok hb.n hb.ok hb.gd.few (by omega)
 have fc := coreFree_ok hc.n hc.ok hc.gd.few (by omega)
 have hT := texts_ok b.fv c.fv (by have := fv_len b; omega) (by have := fv_len c; omega)
 have r1 := Same18_ok ab ac (by omega)
 have r2 := Same18_ok ac ab (by omega)
 have hsz : dbc b [] [] = dbc c [] [] → b.sz = c.sz := fun h => by rw [← szD_dbc b [] [] hb.ok, ← szD_dbc c [] [] hc.ok, h]
 have hfv : dbc b [] [] = dbc c [] [] → b.fv = c.fv := fun h => fv_same h
 have hsym : decide (dbc c [] [] = dbc b [] []) = decide (dbc b [] [] = dbc c [] []) := by rw [Bool.eq_iff_iff]; simp only [decide_eq_true_iff]; exact eq_comm
 rw [hsym] at r2
 have hrr : decide (dbc b [] [] = dbc c [] []) = true → b.sz = c.sz ∧ b.fv = c.fv := fun h => ⟨hsz (of_decide_eq_true h), hfv (of_decide_eq_true h)⟩
 generalize decide (dbc b [] [] = dbc c [] []) = rr at r1 r2 hrr
 refine acall_of_wsem ttok mixed Tryz.func12 rfl (by rfl) (Nat.le_of_ble_eq_true rfl) (by kernel_rfl) ?_
 refine Wsem.seq ttok mixed ?_
 refine Wsem.seq ttok mixed ?_
 refine .inl ⟨_, hC, ?_⟩
 refine Wsem.seq ttok mixed ?_
 refine .inl ⟨_, ints_ok (n := 20) hl1 (by decide), ?_⟩
 refine .inl ⟨_, hB, ?_⟩
 refine Wsem.cut { vs := [(4, .box 0 (.agg [.lit (.int .i64 n), .lit (.int .i64 m)])), (7, .box 0 (eC c)), (8, .box 0 (eC b))] } ⟨⟨rfl, rfl, rfl, trivial⟩, trivial, rfl⟩ ?_
 refine Wsem.shut 4 rfl ?_
 refine Wsem.cut { vs := [(4, .v (.ptr [.lit (.int .i64 n), .lit (.int .i64 m)])), (7, .box 0 (eC c)), (8, .box 0 (eC b))] } ⟨⟨rfl, rfl, rfl, trivial⟩, trivial, rfl⟩ ?_
 refine Wsem.seqS (Wsem.regionIx ttok rfl rfl rfl Tryz.underlying53 Tryz.sizeOf3 (by decide) (by decide) rfl ?_)
 refine .inl ⟨_, hX, ?_⟩
 refine Wsem.seqS (Wsem.regionIx ttok rfl rfl rfl Tryz.underlying53 Tryz.sizeOf3 (by decide) (by decide) rfl ?_)
 refine .inl ⟨_, hY, ?_⟩
 refine Wsem.seq ttok mixed ?_
 refine .inl ⟨_, hI, ?_⟩
 refine Wsem.seq ttok mixed ?_
 refine Wsem.cut { vs := [(7, .box 0 (eC c)), (8, .box 0 (eC b)), (9, .v (str x)), (10, .v (str y)), (11, .box 0 (eTy t)), (12, .v (str nNew))] } ⟨⟨rfl, rfl, rfl, rfl, rfl, rfl, trivial⟩, trivial, rfl⟩ ?_
 refine Wsem.seq ttok mixed ?_
 refine .inl ⟨_, hL1, ?_⟩
 refine Wsem.seq ttok mixed ?_
 refine .inl ⟨_, var18_ok nNew, ?_⟩
 refine .inl ⟨_, hSub, ?_⟩
 refine .inl ⟨_, hL2, ?_⟩
 refine ⟨by kernel_rfl, ?_⟩
 refine Wsem.cut { vs := [(7, .box 0 (eC c)), (8, .box 0 (eC b)), (10, .v (str y)), (11, .box 0 (eTy t)), (13, .box 0 (eC p)), (14, .box 0 (eC q))] } ⟨⟨rfl, rfl, rfl, rfl, rfl, rfl, trivial⟩, trivial, rfl⟩ ?_
 refine Wsem.seq ttok mixed ?_
 refine .inl ⟨_, s1, ?_⟩
 refine ⟨fun _ => ?_, fun h => absurd h (by decide)⟩
 refine .inl ⟨_, s2, ?_⟩
 refine ⟨fun _ => ?_, fun h => absurd h (by decide)⟩
 refine .inl ⟨_, u1, ?_⟩
 refine .inl ⟨_, u2, ?_⟩
 refine .inl ⟨_, s3, ?_⟩
 refine ⟨fun _ => ?_, fun h => absurd h (by decide)⟩
 refine .inl ⟨_, v1, ?_⟩
 refine .inl ⟨_, v2, ?_⟩
 refine .inl ⟨_, s4, ?_⟩
 refine ⟨fun _ => ?_, fun h => absurd h (by decide)⟩
 refine .inl ⟨_, u3, ?_⟩
 refine .inl ⟨_, u4, ?_⟩
 refine .inl ⟨_, s5, ?_⟩
 refine ⟨fun _ => ?_, fun h => absurd h (by decide)⟩
 refine .inl ⟨_, v3, ?_⟩
 refine .inl ⟨_, v4, ?_⟩
 refine .inl ⟨_, s6, ?_⟩
 refine ⟨by kernel_rfl, ?_⟩
 refine ⟨fun h => absurd h (by decide), fun _ => ?_⟩
 refine Wsem.cut { vs := [(7, .box 0 (eC c)), (8, .box 0 (eC b))] } ⟨⟨rfl, rfl, trivial⟩, trivial, rfl⟩ ?_
 refine Wsem.seq ttok mixed ?_
 refine .inl ⟨_, zb, ?_⟩
 refine .inl ⟨_, zc, ?_⟩
 refine ⟨fun m => ?_, fun m => ?_⟩
 ·refine .inl ⟨_, fb, ?_⟩
  refine .inl ⟨_, fc, ?_⟩
  refine .inl ⟨_, hT, ?_⟩
  refine ⟨by kernel_rfl, ?_⟩
  refine ⟨fun h => ?_, fun h => ?_⟩
  ·have hr : rr = false := by
    cases hx : rr with
    | false => rfl
    | true => rw [(hrr hx).2] at h; simp at h
   subst hr
   refine .inl ⟨_, r1, ?_⟩
   refine ⟨fun _ => ?_, fun h => absurd h (by decide)⟩
   refine .inl ⟨_, r2, ?_⟩
   refine ⟨fun _ => ?_, fun h => absurd h (by decide)⟩
   refine .inl ⟨_, lives_ok, ?_⟩
   exact rfl
  ·refine Wsem.cut { vs := [(7, .box 0 (eC c)), (8, .box 0 (eC b))] } ⟨⟨rfl, rfl, trivial⟩, trivial, rfl⟩ ?_
   refine Wsem.of ttok mixed ?_
   refine .inl ⟨_, r1, ?_⟩
   refine .inl ⟨_, r2, ?_⟩
   refine ⟨fun _ => ?_, fun h => absurd h (by cases rr <;> decide)⟩
   refine .inl ⟨_, lives_ok, ?_⟩
   refine ⟨by kernel_rfl, ?_⟩
   exact rfl
 ·have hr : rr = false := by
   cases hx : rr with
   | false => rfl
   | true => rw [(hrr hx).1] at m; simp at m
  subst hr
  refine ⟨by kernel_rfl, ?_⟩
  refine .inl ⟨_, r1, ?_⟩
  refine ⟨fun _ => ?_, fun h => absurd h (by decide)⟩
  refine .inl ⟨_, r2, ?_⟩
  refine ⟨fun _ => ?_, fun h => absurd h (by decide)⟩
  refine .inl ⟨_, lives_ok, ?_⟩
  exact rfl
end Go.Proofs.YtgonkhaebmfgiaaGreatDoor
