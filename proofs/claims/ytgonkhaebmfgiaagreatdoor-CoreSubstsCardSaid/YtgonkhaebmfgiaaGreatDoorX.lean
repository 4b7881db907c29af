/- The document's Subst: a Let. No condition but that core is small. -/
import Derived.Test.YtgonkhaebmfgiaaGreatDoorW
set_option linter.unusedSimpArgs false
set_option linter.unusedVariables false
namespace Go.Proofs.YtgonkhaebmfgiaaGreatDoor
open Go Fp
set_option maxRecDepth 10000
set_option maxHeartbeats 16000000
set_option linter.unusedVariables false
theorem one_kid {f n : Int} {s : ByteArray} {t : Tp} {g : Cr} (ho : (Cr.node f n s t g).Ok) (h : Cr.nk f = 1) : ∃ q, g.kids = [q] := by
 have h1 : g.kids.length = Cr.nk f := ho.2.2.2.1
 rw [h] at h1
 match hk : g.kids, h1 with
 | [q], _ => exact ⟨q, rfl⟩
theorem eC_map {f n : Int} {s' : ByteArray} {t : Tp} {g : Cr} (φ : Cr → Cr) (ν : ByteArray → ByteArray) (α : List ByteArray → Cr → List ByteArray × Cr) (hg : g.isN = false) (hgo : g.Ok) :
  eC (.node f n s' t (mapG φ id ν α g)) = .agg [.lit (.int .i64 f), .lit (.int .i64 n), .lit (.string s'), .lit (.int .i64 t.form), .lit (.int .i64 t.num), .lit (.string t.nam), .sl t.eArgs, .sl (g.kids.map fun p => eC (φ p)), .sl (g.binds.map fun b => eBd (ν b.1, b.2.1, φ b.2.2)), .sl (g.alts.map fun a => eAl (a.1, α a.2.1 a.2.2))] := by
 obtain ⟨G, hG⟩ : ∃ G, G = mapG φ id ν α g := ⟨_, rfl⟩
 have k1 := mapG_kids (φ := φ) (τ := id) (ν := ν) (α := α) hg hgo
 have k2 := mapG_binds (φ := φ) (τ := id) (ν := ν) (α := α) hg hgo
 have k3 := mapG_alts (φ := φ) (τ := id) (ν := ν) (α := α) hg hgo
 rw [← hG] at k1 k2 k3 ⊢
 show AV.agg [_, _, _, _, _, _, _, .sl (G.e3 0), .sl (G.e3 1), .sl (G.e3 2)] = _
 rw [e3_0, e3_1, e3_2, k1, k2, k3, eCs, eBds, eAls, List.map_map, List.map_map, List.map_map]
 rfl
theorem rsb_let (N : Nat) (n : Int) (s : ByteArray) (t : Tp) (g : Cr) (x : ByteArray) (b : Cr) (hc : Sm (.node 8 n s t g)) (hb : Sm b) (hN : (Cr.node 8 n s t g).sz ≤ N + 1) (ih : RsbIH N) :
  ACall Tryz.prog 18 [eC (.node 8 n s t g), str x, eC b] (eC (sbF (N + 1) (.node 8 n s t g) x b)) := by
 obtain ⟨hgn, hgo⟩ := node_lst hc.ok
 have hl := lens_sz _ hc.ok
 have hcs := hc.sz
 obtain ⟨q, hq⟩ := one_kid hc.ok (by decide)
 have hfw := few18_ok hc.n hc.ok
 obtain ⟨φ, ν, h1, _, h3⟩ := sbF_gv N hc.ok (by decide) (by decide) x b
 have hnm : (Cr.node 8 n s t g).names0 = g.binds.map (·.1) := rfl
 have hpp : g.parts0 = q :: g.binds.map (·.2.2) := by show g.kids ++ _ = _; rw [hq]; rfl
 rw [hnm, hpp] at h1
 have hsmall : ∀ p ∈ q :: g.binds.map (·.2.2), Sm p ∧ p.sz ≤ N := fun p hp => by
  rcases List.mem_cons.1 hp with rfl | hp
  ·have := hc.part (p := .kid 0) (d := p) (by show g.kids[0]? = _; rw [hq]; rfl)
   exact ⟨this.1, by have := this.2; omega⟩
  ·obtain ⟨d, hd, rfl⟩ := List.mem_map.1 hp
   obtain ⟨k, hk, rfl⟩ := List.getElem_of_mem hd
   have := hc.part (p := .bind k) (d := g.binds[k].2.2) (by show (g.binds[k]?).map (·.2.2) = _; rw [List.getElem?_eq_getElem hk]; rfl)
   exact ⟨this.1, by have := this.2; omega⟩
 have hbl : g.binds.length ≤ 590 := by have : g.binds.length = (Cr.node 8 n s t g).binds.length := rfl; omega
 have hsum := parts_sum g
 have hsz : (Cr.node 8 n s t g).sz = 1 + g.sz := rfl
 have hfl : ((q :: g.binds.map (·.2.2)).flatMap Cr.fv).length ≤ 590 := by
  have e : (q :: g.binds.map (·.2.2)).flatMap Cr.fv = g.kids.flatMap Cr.fv ++ g.binds.flatMap fun b => b.2.2.fv := by
   rw [← hpp]; show (g.kids ++ _).flatMap _ = _; rw [List.flatMap_append, List.flatMap_map]
  rw [e, List.length_append]; omega
 have hgc := given_ok N ih (g.binds.map (·.1)) (q :: g.binds.map (·.2.2)) x b (by simp; omega) (by simp; omega) hsmall hfl hb
 rw [h1] at hgc
 have ha : g.alts = [] := by
  cases h : g.alts with
  | nil => rfl
  | cons a l => exact absurd (hc.ok.2.2.2.2.2.1 (by rw [h]; simp)) (by decide)
 rw [h3, if_neg (by decide), eC_map φ ν _ hgn hgo, ha, hq]
 have ea : (Cr.node 8 n s t g).e3 2 = [] := by rw [e3_2]; show eAls g.alts = []; rw [ha]; rfl
 have hlb : (Cr.node 8 n s t g).binds = g.binds := rfl
 have hlk : (Cr.node 8 n s t g).kids = [q] := hq
 have e0 : (Cr.node 8 n s t g).e3 0 = [eC q] := by rw [e3_0, hlk]; rfl
 have e1 : (Cr.node 8 n s t g).e3 1 = eBds g.binds := by rw [e3_1]; rfl
 have eM : eC (Cr.node 8 n s t g) = .agg [.lit (.int .i64 8), .lit (.int .i64 n), .lit (.string s), .lit (.int .i64 t.form), .lit (.int .i64 t.num), .lit (.string t.nam), .sl t.eArgs, .sl [eC q], .sl (eBds g.binds), .sl []] := by
  show AV.agg [_, _, _, _, _, _, _, .sl _, .sl _, .sl _] = _
  rw [e0, e1, ea]
  rfl
 rw [eM] at hfw ⊢
 obtain ⟨B, hB⟩ : ∃ B, B = g.binds := ⟨_, rfl⟩
 rw [← hB] at hgc hbl hfw ⊢
 refine acall_of_wsem ttok mixed Tryz.func18 rfl (by rfl) (Nat.le_of_ble_eq_true rfl) (by kernel_rfl) ?_
 refine Wsem.seq ttok mixed ?_
 refine Wsem.cut { vs := [(1, .v (str x)), (3, .box 0 (.agg [.lit (.int .i64 8), .lit (.int .i64 n), .lit (.string s), .lit (.int .i64 t.form), .lit (.int .i64 t.num), .lit (.string t.nam), .sl t.eArgs, .sl [eC q], .sl (eBds B), .sl []])), (5, .box 0 (eC b)), (6, .box 0 eZ)] } ⟨⟨rfl, rfl, rfl, rfl, trivial⟩, trivial, rfl⟩ ?_
 refine Wsem.seq ttok mixed ?_
 refine .inl ⟨_, hfw, ?_⟩
 refine ⟨fun h => absurd h (by decide), fun _ => ?_⟩
 refine Wsem.cut { vs := [(1, .v (str x)), (3, .box 0 (.agg [.lit (.int .i64 8), .lit (.int .i64 n), .lit (.string s), .lit (.int .i64 t.form), .lit (.int .i64 t.num), .lit (.string t.nam), .sl t.eArgs, .sl [eC q], .sl (eBds B), .sl []])), (5, .box 0 (eC b)), (6, .box 0 eZ)] } ⟨⟨rfl, rfl, rfl, rfl, trivial⟩, trivial, rfl⟩ ?_
 refine Wsem.seqS (Wsem.seq ttok mixed ?_)
 refine Wsem.block ?_
 refine Wsem.seq ttok mixed ?_
 refine Wsem.cond rfl (fun h => absurd h (by simp)) (fun _ => ?_)
 refine Wsem.seq ttok mixed ?_
 refine Wsem.cond rfl (fun h => absurd h (by simp)) (fun _ => ?_)
 refine Wsem.seq ttok mixed ?_
 refine Wsem.cond rfl (fun h => absurd h (by simp)) (fun _ => ?_)
 refine Wsem.seq ttok mixed ?_
 refine Wsem.cond rfl (fun _ => ?_) (fun h => absurd h (by simp))
 refine Wsem.seq ttok mixed ?_
 refine Wsem.seq ttok mixed ?_
 refine Wsem.seq ttok mixed ?_
 refine ⟨eC q, by decide, rfl, rfl, ?_⟩
 refine ⟨by simp, uni0 10, uni1 rfl, ?_⟩
 refine Wsem.cut { vs := [(1, .v (str x)), (3, .box 0 (.agg [.lit (.int .i64 8), .lit (.int .i64 n), .lit (.string s), .lit (.int .i64 t.form), .lit (.int .i64 t.num), .lit (.string t.nam), .sl t.eArgs, .sl [eC q], .sl (eBds B), .sl []])), (5, .box 0 (eC b)), (6, .box 0 eZ), (11, .v (.sl [])), (12, .v (.sl [eC q]))], ow := [(11, 0, 2), (12, 0, 11)] } ⟨⟨rfl, rfl, rfl, rfl, rfl, rfl, trivial⟩, ⟨trivial, rfl, trivial⟩, rfl⟩ ?_
 refine Wsem.seq ttok mixed ?_
 refine ⟨{k : Nat // k ≤ B.length}, fun k => { vs := [(1, .v (str x)), (3, .box 0 (.agg [.lit (.int .i64 8), .lit (.int .i64 n), .lit (.string s), .lit (.int .i64 t.form), .lit (.int .i64 t.num), .lit (.string t.nam), .sl t.eArgs, .sl [eC q], .sl (eBds B), .sl []])), (5, .box 0 (eC b)), (6, .box 0 eZ), (11, .v (.sl (eSs ((B.take k.1).map (·.1))))), (12, .v (.sl (eC q :: (B.take k.1).map fun d => eC d.2.2))), (13, sv (k.1 : Nat))], ow := [(11, 0, 2), (12, 0, 11)] },
  fun k => B.length - k.1, ⟨0, Nat.zero_le _⟩, ⟨⟨rfl, rfl, rfl, rfl, rfl, rfl, rfl, trivial⟩, ⟨rfl, rfl, trivial⟩, rfl⟩, ?_⟩
 rintro ⟨k, hk⟩
 refine ⟨fun h => ?_, fun h => ?_⟩
 ·have h : k < B.length := by have h := of_decide_eq_true h; simp only [eBds, List.length_map] at h; omega
  have hU : Uni 10 (eC q :: (B.take k).map fun d => eC d.2.2) := fun a ha => by
   rcases List.mem_cons.1 ha with h1 | h1
   ·rw [h1]; rfl
   ·obtain ⟨x, _, h2⟩ := List.mem_map.1 h1; rw [← h2]; rfl
  refine ⟨_, by omega, getBd h, rfl, ?_⟩
  refine ⟨by rw [lenS]; simp only [List.length_map, List.length_take, List.length_cons, List.length_nil]; omega, uniS _, uni1 rfl, ?_⟩
  refine ⟨_, by omega, getBd h, rfl, ?_⟩
  refine ⟨by simp only [List.length_map, List.length_take, List.length_cons, List.length_nil]; omega, hU, uni1 rfl, ?_⟩
  refine ⟨⟨k + 1, h⟩, by simp; omega, ⟨rfl, rfl, rfl, rfl, ?_, ?_, svc (wrap_succ (k := k) (by omega)), trivial⟩, ⟨rfl, rfl, trivial⟩, rfl⟩
  ·refine congrArg (fun l => SV.v (AV.sl l)) ?_
   rw [takeMp (f := fun d : Bdg => d.1) h]
   simp [eSs]
   rfl
  ·refine congrArg (fun l => SV.v (AV.sl l)) ?_
   rw [takeF (f := fun d : Bdg => eC d.2.2) h]
   rfl
 have h : k = B.length := by have h := of_decide_eq_false h; simp only [eBds, List.length_map] at h; omega
 subst h
 refine Wsem.cut { vs := [(1, .v (str x)), (3, .box 0 (.agg [.lit (.int .i64 8), .lit (.int .i64 n), .lit (.string s), .lit (.int .i64 t.form), .lit (.int .i64 t.num), .lit (.string t.nam), .sl t.eArgs, .sl [eC q], .sl (eBds B), .sl []])), (5, .box 0 (eC b)), (6, .box 0 eZ), (11, .v (.sl (eSs (B.map (·.1))))), (12, .v (.sl (eCs (q :: B.map (·.2.2)))))] } ⟨⟨rfl, rfl, rfl, rfl, by rw [List.take_length]; rfl, by rw [List.take_length]; exact congrArg (fun l => SV.v (AV.sl l)) (by rw [eCs, List.map_cons, List.map_map]; rfl), trivial⟩, trivial, rfl⟩ ?_
 refine Wsem.seq ttok mixed ?_
 refine .inl ⟨_, hgc, ?_⟩
 refine Wsem.cut { vs := [(1, .v (str x)), (3, .box 0 (.agg [.lit (.int .i64 8), .lit (.int .i64 n), .lit (.string s), .lit (.int .i64 t.form), .lit (.int .i64 t.num), .lit (.string t.nam), .sl t.eArgs, .sl [eC q], .sl (eBds B), .sl []])), (5, .box 0 (eC b)), (6, .box 0 eZ), (14, .v (.sl (eSs ((B.map (·.1)).map ν)))), (15, .v (.sl (eCs ((q :: B.map (·.2.2)).map φ))))] } ⟨⟨rfl, rfl, rfl, rfl, rfl, rfl, trivial⟩, trivial, rfl⟩ ?_
 refine Wsem.seq ttok mixed ?_
 refine Wsem.seq ttok mixed ?_
 refine ⟨{k : Nat // k ≤ B.length}, fun k => { vs := [(1, .v (str x)), (3, .box 0 (.agg [.lit (.int .i64 8), .lit (.int .i64 n), .lit (.string s), .lit (.int .i64 t.form), .lit (.int .i64 t.num), .lit (.string t.nam), .sl t.eArgs, .sl [eC q], .sl (eBds B), .sl []])), (5, .box 0 (eC b)), (6, .box 0 eZ), (14, .v (.sl (eSs ((B.map (·.1)).map ν)))), (15, .v (.sl (eCs ((q :: B.map (·.2.2)).map φ)))), (16, .v (.sl ((B.take k.1).map fun d => eBd (ν d.1, d.2.1, φ d.2.2)))), (17, sv (k.1 : Nat))], ow := [(16, 0, 16)] },
  fun k => B.length - k.1, ⟨0, Nat.zero_le _⟩, ⟨⟨rfl, rfl, rfl, rfl, rfl, rfl, rfl, rfl, trivial⟩, ⟨trivial, trivial⟩, rfl⟩, ?_⟩
 rintro ⟨k, hk⟩
 refine ⟨fun h => ?_, fun h => ?_⟩
 ·have h : k < B.length := by have h := of_decide_eq_true h; simp only [eBds, List.length_map] at h; omega
  have g1 : (eSs ((B.map (·.1)).map ν))[k]? = some (.lit (.string (ν B[k].1))) := by simp [eSs, h]
  have g2 : (eCs ((q :: B.map (·.2.2)).map φ))[k + 1]? = some (eC (φ B[k].2.2)) := by simp [eCs, h]
  have hw : IntKind.i64.wrap ((k : Int) + 1) = ((k + 1 : Nat) : Int) := wrap_succ (k := k) (by omega)
  refine ⟨_, by omega, g1, rfl, ?_⟩
  refine ⟨_, by omega, getBd h, rfl, ?_⟩
  refine ⟨_, by show (0 : Int) ≤ IntKind.i64.wrap ((k : Int) + 1); rw [hw]; omega, by show (eCs _)[(IntKind.i64.wrap ((k : Int) + 1)).toNat]? = _; rw [hw]; exact g2, rfl, ?_⟩
  refine ⟨by simp; omega, fun a ha => by obtain ⟨x, _, rfl⟩ := List.mem_map.1 ha; rfl, uni1 rfl, ?_⟩
  refine ⟨by kernel_rfl, ?_⟩
  refine ⟨⟨k + 1, h⟩, by simp; omega, ⟨rfl, rfl, rfl, rfl, rfl, rfl, ?_, svc (wrap_succ (k := k) (by omega)), trivial⟩, ⟨rfl, trivial⟩, rfl⟩
  exact congrArg (fun l => SV.v (AV.sl l)) (takeF (f := fun d : Bdg => eBd (ν d.1, d.2.1, φ d.2.2)) h).symm
 have h : k = B.length := by have h := of_decide_eq_false h; simp only [eBds, List.length_map] at h; omega
 subst h
 refine Wsem.cut { vs := [(1, .v (str x)), (3, .box 0 (.agg [.lit (.int .i64 8), .lit (.int .i64 n), .lit (.string s), .lit (.int .i64 t.form), .lit (.int .i64 t.num), .lit (.string t.nam), .sl t.eArgs, .sl [eC q], .sl (eBds B), .sl []])), (5, .box 0 (eC b)), (6, .box 0 eZ), (15, .v (.sl (eCs ((q :: B.map (·.2.2)).map φ)))), (16, .v (.sl (B.map fun d => eBd (ν d.1, d.2.1, φ d.2.2))))] } ⟨⟨rfl, rfl, rfl, rfl, rfl, by rw [List.take_length]; rfl, trivial⟩, trivial, rfl⟩ ?_
 refine Wsem.of ttok mixed ?_
 refine ⟨eC (φ q), by decide, rfl, rfl, ?_⟩
 exact rfl
theorem rsb_else (N : Nat) (f n : Int) (s : ByteArray) (t : Tp) (g : Cr) (x : ByteArray) (b : Cr) (h1 : ¬ f = 1) (h5 : ¬ f = 5) (h7 : ¬ f = 7) (h8 : ¬ f = 8) (hc : Sm (.node f n s t g)) (hb : Sm b) (hN : (Cr.node f n s t g).sz ≤ N + 1) (ih : RsbIH N) :
  ACall Tryz.prog 18 [eC (.node f n s t g), str x, eC b] (eC (sbF (N + 1) (.node f n s t g) x b)) := by
 obtain ⟨hgn, hgo⟩ := node_lst hc.ok
 have hl := lens_sz _ hc.ok
 have hcs := hc.sz
 have hfw := few18_ok hc.n hc.ok
 obtain ⟨φ, ν, _, hφ, h3⟩ := sbF_gv N hc.ok h1 h7 x b
 have hbi : g.binds = [] := by
  cases h : g.binds with
  | nil => rfl
  | cons a l => exact absurd (hc.ok.2.2.2.2.1 (by rw [h]; simp)) h8
 have hnm : (Cr.node f n s t g).names0 = [] := by
  show (if f = 5 then [s] else []) ++ g.binds.map (·.1) = []
  rw [if_neg h5, hbi]; rfl
 have hφ := hφ hnm
 have hkm : ∀ p ∈ g.kids, φ p = sbF N p x b := fun p hp => by
  rcases hφ with h | ⟨h, hx⟩
  ·rw [h]
  ·have hp2 := hc.ok.kid (c := .node f n s t g) hp
   rw [sb_same N p x b hp2.1 hp2.2 fun hm => hx (List.mem_flatMap.2 ⟨p, List.mem_append_left _ hp, hm⟩), h]; rfl
 rw [h3, if_neg h5, eC_map φ ν _ hgn hgo, hbi]
 have hK : (g.kids.map fun p => eC (φ p)) = g.kids.map fun p => eC (sbF N p x b) := List.map_congr_left fun p hp => by rw [hkm p hp]
 rw [hK]
 have hkid : ∀ (k : Nat) (h : k < g.kids.length), ACall Tryz.prog 18 [eC g.kids[k], str x, eC b] (eC (sbF N g.kids[k] x b)) := fun k h => by
  have := hc.part (p := .kid k) (d := g.kids[k]) (List.getElem?_eq_getElem h)
  exact ih _ x b this.1 (by have := this.2; omega) hb
 have halt : ∀ (k : Nat) (h : k < g.alts.length), ACall Tryz.prog 60 [.sl (eSs g.alts[k].2.1), .sl [eC g.alts[k].2.2], str x, eC b] (.tup [.sl (eSs (aP N x b g.alts[k].2.1 g.alts[k].2.2).1), .sl [eC (aP N x b g.alts[k].2.1 g.alts[k].2.2).2]]) := fun k h => by
  have hp := hc.part (p := .alt k) (d := g.alts[k].2.2) (by show (g.alts[k]?).map (·.2.2) = _; rw [List.getElem?_eq_getElem h]; rfl)
  have hw := (sm_alt (K := 0) (c := .node f n s t g) (List.getElem_mem h)).1
  have hwc := hc.wt
  have hvn := (hc.ok.alt (c := .node f n s t g) (List.getElem_mem h)).2.2
  have hfl := fv_len g.alts[k].2.2
  have hps := hp.1.sz
  have := given_ok N ih g.alts[k].2.1 [g.alts[k].2.2] x b (by omega) (by simp) (fun p hp' => by rcases List.mem_singleton.1 hp' with rfl; exact ⟨hp.1, by have := hp.2; omega⟩) (by simp; omega) hb
  rw [gvn_alt hvn] at this
  exact this
 have hlk : (Cr.node f n s t g).kids.length = g.kids.length := rfl
 have hla : (Cr.node f n s t g).alts.length = g.alts.length := rfl
 have e0 : (Cr.node f n s t g).e3 0 = eCs g.kids := by rw [e3_0]; rfl
 have e1 : (Cr.node f n s t g).e3 1 = [] := by rw [e3_1]; show eBds g.binds = []; rw [hbi]; rfl
 have e2 : (Cr.node f n s t g).e3 2 = eAls g.alts := by rw [e3_2]; rfl
 have eM : eC (Cr.node f n s t g) = .agg [.lit (.int .i64 f), .lit (.int .i64 n), .lit (.string s), .lit (.int .i64 t.form), .lit (.int .i64 t.num), .lit (.string t.nam), .sl t.eArgs, .sl (eCs g.kids), .sl [], .sl (eAls g.alts)] := by
  show AV.agg [_, _, _, _, _, _, _, .sl _, .sl _, .sl _] = _
  rw [e0, e1, e2]
  rfl
 rw [eM] at hfw ⊢
 obtain ⟨K, hKK⟩ : ∃ K, K = g.kids := ⟨_, rfl⟩
 obtain ⟨A, hAA⟩ : ∃ A, A = g.alts := ⟨_, rfl⟩
 simp only [← hKK, ← hAA] at hfw hkid halt hlk hla ⊢
 refine acall_of_wsem ttok mixed Tryz.func18 rfl (by rfl) (Nat.le_of_ble_eq_true rfl) (by kernel_rfl) ?_
 refine Wsem.seq ttok mixed ?_
 refine Wsem.cut { vs := [(1, .v (str x)), (3, .box 0 (.agg [.lit (.int .i64 f), .lit (.int .i64 n), .lit (.string s), .lit (.int .i64 t.form), .lit (.int .i64 t.num), .lit (.string t.nam), .sl t.eArgs, .sl (eCs K), .sl [], .sl (eAls A)])), (5, .box 0 (eC b)), (6, .box 0 eZ)] } ⟨⟨rfl, rfl, rfl, rfl, trivial⟩, trivial, rfl⟩ ?_
 refine Wsem.seq ttok mixed ?_
 refine .inl ⟨_, hfw, ?_⟩
 refine ⟨fun h => absurd h (by decide), fun _ => ?_⟩
 refine Wsem.cut { vs := [(1, .v (str x)), (3, .box 0 (.agg [.lit (.int .i64 f), .lit (.int .i64 n), .lit (.string s), .lit (.int .i64 t.form), .lit (.int .i64 t.num), .lit (.string t.nam), .sl t.eArgs, .sl (eCs K), .sl [], .sl (eAls A)])), (5, .box 0 (eC b)), (6, .box 0 eZ)] } ⟨⟨rfl, rfl, rfl, rfl, trivial⟩, trivial, rfl⟩ ?_
 refine Wsem.seqS (Wsem.seq ttok mixed ?_)
 refine Wsem.block ?_
 refine Wsem.seq ttok mixed ?_
 refine Wsem.cond rfl (fun h => absurd (of_decide_eq_true h) h1) (fun _ => ?_)
 refine Wsem.seq ttok mixed ?_
 refine Wsem.cond rfl (fun h => absurd (of_decide_eq_true h) h5) (fun _ => ?_)
 refine Wsem.seq ttok mixed ?_
 refine Wsem.cond rfl (fun h => absurd (of_decide_eq_true h) h7) (fun _ => ?_)
 refine Wsem.seq ttok mixed ?_
 refine Wsem.cond rfl (fun h => absurd (of_decide_eq_true h) h8) (fun _ => ?_)
 refine Wsem.of ttok mixed ?_
 refine Wsem.cut { vs := [(1, .v (str x)), (3, .box 0 (.agg [.lit (.int .i64 f), .lit (.int .i64 n), .lit (.string s), .lit (.int .i64 t.form), .lit (.int .i64 t.num), .lit (.string t.nam), .sl t.eArgs, .sl (eCs K), .sl [], .sl (eAls A)])), (5, .box 0 (eC b)), (6, .box 0 eZ)] } ⟨⟨rfl, rfl, rfl, rfl, trivial⟩, trivial, rfl⟩ ?_
 refine Wsem.seq ttok mixed ?_
 refine Wsem.seq ttok mixed ?_
 refine ⟨{k : Nat // k ≤ K.length}, fun k => { vs := [(1, .v (str x)), (3, .box 0 (.agg [.lit (.int .i64 f), .lit (.int .i64 n), .lit (.string s), .lit (.int .i64 t.form), .lit (.int .i64 t.num), .lit (.string t.nam), .sl t.eArgs, .sl (eCs K), .sl [], .sl (eAls A)])), (5, .box 0 (eC b)), (6, .box 0 eZ), (18, .v (.sl ((K.take k.1).map fun p => eC (sbF N p x b)))), (19, sv (k.1 : Nat))], ow := [(18, 0, 11)] },
  fun k => K.length - k.1, ⟨0, Nat.zero_le _⟩, ⟨⟨rfl, rfl, rfl, rfl, rfl, rfl, trivial⟩, ⟨trivial, trivial⟩, rfl⟩, ?_⟩
 rintro ⟨k, hk⟩
 refine ⟨fun h => ?_, fun h => ?_⟩
 ·have h : k < K.length := by have h := of_decide_eq_true h; simp only [eCs, List.length_map] at h; omega
  refine ⟨_, by omega, getC h, rfl, ?_⟩
  refine .inl ⟨_, hkid k h, ?_⟩
  refine ⟨by simp; omega, fun a ha => by obtain ⟨x, _, rfl⟩ := List.mem_map.1 ha; rfl, uni1 rfl, ?_⟩
  refine ⟨by kernel_rfl, ?_⟩
  refine ⟨⟨k + 1, h⟩, by simp; omega, ⟨rfl, rfl, rfl, rfl, ?_, svc (wrap_succ (k := k) (by omega)), trivial⟩, ⟨rfl, trivial⟩, rfl⟩
  exact congrArg (fun l => SV.v (AV.sl l)) (takeF (f := fun p => eC (sbF N p x b)) h).symm
 have h : k = K.length := by have h := of_decide_eq_false h; simp only [eCs, List.length_map] at h; omega
 subst h
 refine Wsem.cut { vs := [(1, .v (str x)), (3, .box 0 (.agg [.lit (.int .i64 f), .lit (.int .i64 n), .lit (.string s), .lit (.int .i64 t.form), .lit (.int .i64 t.num), .lit (.string t.nam), .sl t.eArgs, .sl (eCs K), .sl [], .sl (eAls A)])), (5, .box 0 (eC b)), (6, .box 0 eZ), (18, .v (.sl (K.map fun p => eC (sbF N p x b))))] } ⟨⟨rfl, rfl, rfl, rfl, by rw [List.take_length]; rfl, trivial⟩, trivial, rfl⟩ ?_
 generalize (K.map fun p => eC (sbF N p x b)) = K2
 refine Wsem.seq ttok mixed ?_
 refine Wsem.cut { vs := [(1, .v (str x)), (3, .box 0 (.agg [.lit (.int .i64 f), .lit (.int .i64 n), .lit (.string s), .lit (.int .i64 t.form), .lit (.int .i64 t.num), .lit (.string t.nam), .sl t.eArgs, .sl K2, .sl [], .sl (eAls A)])), (5, .box 0 (eC b)), (6, .box 0 eZ)] } ⟨⟨rfl, rfl, rfl, rfl, trivial⟩, trivial, rfl⟩ ?_
 refine Wsem.seq ttok mixed ?_
 refine Wsem.seq ttok mixed ?_
 refine ⟨{k : Nat // k ≤ A.length}, fun k => { vs := [(1, .v (str x)), (3, .box 0 (.agg [.lit (.int .i64 f), .lit (.int .i64 n), .lit (.string s), .lit (.int .i64 t.form), .lit (.int .i64 t.num), .lit (.string t.nam), .sl t.eArgs, .sl K2, .sl [], .sl (eAls A)])), (5, .box 0 (eC b)), (6, .box 0 eZ), (20, .v (.sl ((A.take k.1).map fun a => eAl (a.1, aP N x b a.2.1 a.2.2)))), (21, sv (k.1 : Nat))], ow := [(20, 0, 15)] },
  fun k => A.length - k.1, ⟨0, Nat.zero_le _⟩, ⟨⟨rfl, rfl, rfl, rfl, rfl, rfl, trivial⟩, ⟨trivial, trivial⟩, rfl⟩, ?_⟩
 rintro ⟨k, hk⟩
 refine ⟨fun h => ?_, fun h => ?_⟩
 ·have h : k < A.length := by have h := of_decide_eq_true h; simp only [eAls, List.length_map] at h; omega
  have htk := takeF (f := fun a : Alg => eAl (a.1, aP N x b a.2.1 a.2.2)) h
  have hga := halt k h
  have hgl := getAl h
  generalize A[k] = d at hga hgl htk
  generalize aP N x b d.2.1 d.2.2 = r at hga htk
  refine ⟨_, by omega, hgl, rfl, ?_⟩
  refine .inl ⟨_, hga, ?_⟩
  refine ⟨_, by decide, rfl, rfl, ?_⟩
  refine ⟨by simp; omega, fun a ha => by obtain ⟨x, _, rfl⟩ := List.mem_map.1 ha; rfl, uni1 rfl, ?_⟩
  refine ⟨⟨k + 1, h⟩, by simp; omega, ⟨rfl, rfl, rfl, rfl, ?_, svc (wrap_succ (k := k) (by omega)), trivial⟩, ⟨rfl, trivial⟩, rfl⟩
  exact congrArg (fun l => SV.v (AV.sl l)) htk.symm
 have h : k = A.length := by have h := of_decide_eq_false h; simp only [eAls, List.length_map] at h; omega
 subst h
 refine Wsem.cut { vs := [(1, .v (str x)), (3, .box 0 (.agg [.lit (.int .i64 f), .lit (.int .i64 n), .lit (.string s), .lit (.int .i64 t.form), .lit (.int .i64 t.num), .lit (.string t.nam), .sl t.eArgs, .sl K2, .sl [], .sl (eAls A)])), (5, .box 0 (eC b)), (6, .box 0 eZ), (20, .v (.sl (A.map fun a => eAl (a.1, aP N x b a.2.1 a.2.2))))] } ⟨⟨rfl, rfl, rfl, rfl, by rw [List.take_length]; rfl, trivial⟩, trivial, rfl⟩ ?_
 refine Wsem.of ttok mixed ?_
 exact rfl
theorem rsb_ok (N : Nat) : RsbIH N := by
 induction N with
 | zero => intro d x b hd hs; have := sz_posC hd.n; omega
 | succ N ih =>
  intro d x b hd hs hb
  by_cases h7 : d.f = 7
  ·obtain ⟨n, s, q, rfl⟩ := lam7 hd.ok hd.n h7
   exact rsb_tlam N n s q x b hd hb hs ih
  cases d with
  | node f n s t g =>
   have h7 : ¬ f = 7 := h7
   by_cases h1 : f = 1
   ·subst h1; exact rsb_var N n s t g x b hd hb
   by_cases h8 : f = 8
   ·subst h8; exact rsb_let N n s t g x b hd hb hs ih
   by_cases h5 : f = 5
   ·subst h5
    obtain ⟨hgn, hgo⟩ := node_lst hd.ok
    obtain ⟨q, hq⟩ := one_kid hd.ok (by decide)
    obtain ⟨p, hp, _, _⟩ := lst_one hgn hgo (by rw [hq]; rfl)
     (by cases h : g.binds with
       | nil => rfl
       | cons a l => exact absurd (hd.ok.2.2.2.2.1 (by rw [h]; simp)) (by decide))
     (by cases h : g.alts with
       | nil => rfl
       | cons a l => exact absurd (hd.ok.2.2.2.2.2.1 (by rw [h]; simp)) (by decide))
    subst hp
    exact rsb_lam N n s t p x b hd hb hs ih
   exact rsb_else N f n s t g x b h1 h5 h7 h8 hd hb hs ih
  | _ => cases hd.n
theorem coreSubsts_ok {l0 l1 : List Int} {n : Int} (hl0 : l0.length < 9223372036854775808) (hr0 : ∀ x ∈ l0, InR x) (hn : InR n) (hl1 : l1.length < 9223372036854775808) (hr1 : ∀ x ∈ l1, InR x) : ACall Tryz.prog 3 [.sl (eIs l0), .lit (.int .i64 n), .sl (eIs l1)] (.sb true) := by
 obtain ⟨a, ha, _, hA⟩ := made18_ok hl0 hr0
 obtain ⟨b, hb, _, hB⟩ := made18_ok (l := l1.take 14) (by rw [List.length_take]; omega) (fun x hx => hr1 x (List.mem_of_mem_take hx))
 obtain ⟨s, _, hS⟩ := lawName18_ok hn
 have h1 := substN_ok 590 a s b ha ha.sz hb
 have h2 := rsb_ok 590 a s b ha ha.sz hb
 have hz := sb_small (x := s) ha hb
 have hall := sbF_all 590 a s b ha.n ha.ok hb.n hb.ok
 have has := ha.sz
 have hE := eqC_ok 400000 (sbF 590 a s b) (by omega) (by decide) hall.1 hall.2.1 (sbF_few 590 a s b ha.gd.few hb.gd.few)
 refine acall_of_wsem ttok mixed Tryz.func3 rfl (by rfl) (Nat.le_of_ble_eq_true rfl) (by kernel_rfl) ?_
 refine Wsem.seq ttok mixed ?_
 refine Wsem.seq ttok mixed ?_
 refine .inl ⟨_, hA, ?_⟩
 refine Wsem.seq ttok mixed ?_
 refine .inl ⟨_, ints_ok (n := 14) hl1 (by decide), ?_⟩
 refine .inl ⟨_, hB, ?_⟩
 refine Wsem.of ttok mixed ?_
 refine .inl ⟨_, hS, ?_⟩
 refine .inl ⟨_, h1, ?_⟩
 refine .inl ⟨_, hS, ?_⟩
 refine .inl ⟨_, h2, ?_⟩
 refine .inl ⟨_, hE, ?_⟩
 refine ⟨fun _ => ?_, fun h => absurd h (by decide)⟩
 refine .inl ⟨_, lives_ok, ?_⟩
 refine ⟨by kernel_rfl, ?_⟩
 exact rfl
end Go.Proofs.YtgonkhaebmfgiaaGreatDoor
