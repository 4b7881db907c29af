/- The document's Free. No condition but on lengths. -/
import Derived.Test.YtgonkhaebmfgiaaGreatDoorU
import Derived.Test.YtgonkhaebmfgiaaGreatDoorFpM
set_option linter.unusedSimpArgs false
set_option linter.unusedVariables false
namespace Go.Proofs.YtgonkhaebmfgiaaGreatDoor
open Go Fp
set_option maxRecDepth 10000
set_option maxHeartbeats 16000000
set_option linter.unusedVariables false
abbrev bar (G : List ByteArray) : ByteArray → Bool := fun y => memb y G
def fK (G out : List ByteArray) (l : List Cr) : List ByteArray := l.foldl (fun o p => insAll (bar G) o p.fv) out
def fA (G out : List ByteArray) (l : List Alg) : List ByteArray := l.foldl (fun o a => insAll (bar (G ++ a.2.1)) o a.2.2.fv) out
theorem bar_or (G H : List ByteArray) (y : ByteArray) : bar (G ++ H) y = (bar G y || bar H y) := by
 rw [Bool.eq_iff_iff]; simp [bar, memb]
theorem fold_fvG (G : List ByteArray) (g : Cr) : ∀ out, g.isN = false → g.Ok → insAll (bar G) out g.fv = fA G (fK G (fK G out g.kids) (g.binds.map (·.2.2))) g.alts := by
 induction g with
 | nil => intro out _ _; rfl
 | node => intro out h; cases h
 | kid p r _ ih =>
  intro out _ ho
  show insAll _ out (insAll no p.fv r.fv) = fA G (fK G (fK G out (p :: r.kids)) (r.binds.map (·.2.2))) r.alts
  rw [insAll_insAll _ no (bar G) (fun s => by simp [no]), ih _ ho.2.1 ho.2.2.2]
  rfl
 | bind x t p r _ ih =>
  intro out _ ho
  show insAll _ out (insAll no p.fv r.fv) = fA G (fK G (fK G out r.kids) (p :: r.binds.map (·.2.2))) r.alts
  rw [insAll_insAll _ no (bar G) (fun s => by simp [no]), ih _ ho.2.1 ho.2.2.2.2, ho.2.2.1]
  rfl
 | alt f n s vs p r _ ih =>
  intro out _ ho
  show insAll _ out (insAll no (insAll (bar vs) [] p.fv) r.fv) = fA G (fK G (fK G out r.kids) (r.binds.map (·.2.2))) ((((f, n, s), vs, p) : Alg) :: r.alts)
  rw [insAll_insAll _ no (bar G) (fun s => by simp [no]), insAll_insAll (bar G) (bar vs) (bar (G ++ vs)) (bar_or G vs), ih _ ho.2.1 ho.2.2.2.2.2.2, ho.2.2.1, ho.2.2.2.1]
  rfl
theorem fv_out {c : Cr} (hn : c.isN = true) (ho : c.Ok) (h1 : c.f ≠ 1) (g out : List ByteArray) : insAll (bar g) out c.fv = fA (g ++ c.names0) (fK (g ++ c.names0) (fK (g ++ c.names0) out c.kids) (c.binds.map (·.2.2))) c.alts := by
 cases c with
 | node f n s t k =>
  have e1 : (Cr.node f n s t k).fv = insAll (bar (Cr.node f n s t k).names0) [] k.fv := by
   show (if f = 1 then [s] else _) = _
   rw [if_neg (show ¬ f = 1 from h1)]
  rw [e1, insAll_insAll (bar g) _ (bar (g ++ (Cr.node f n s t k).names0)) (bar_or _ _)]
  exact fold_fvG _ k _ (node_lst ho).1 (node_lst ho).2
 | _ => cases hn
theorem fK_take {G out : List ByteArray} {l : List Cr} {k : Nat} (h : k < l.length) : fK G out (l.take (k + 1)) = insAll (bar G) (fK G out (l.take k)) l[k].fv := by
 unfold fK; rw [List.take_succ_eq_append_getElem h, List.foldl_append]; rfl
theorem fA_take {G out : List ByteArray} {l : List Alg} {k : Nat} (h : k < l.length) : fA G out (l.take (k + 1)) = insAll (bar (G ++ l[k].2.1)) (fA G out (l.take k)) l[k].2.2.fv := by
 unfold fA; rw [List.take_succ_eq_append_getElem h, List.foldl_append]; rfl
theorem fK_len (G : List ByteArray) : ∀ (l : List Cr) (out : List ByteArray), (fK G out l).length ≤ out.length + (l.map Cr.sz).sum
 | [], out => by simp [fK]
 | p :: l, out => by
  have h1 := fK_len G l (insAll (bar G) out p.fv)
  have h2 := insAll_length (bar G) p.fv out
  have h3 := fv_len p
  show (fK G (insAll (bar G) out p.fv) l).length ≤ _
  simp only [List.map_cons, List.sum_cons]; omega
def szB (b : Bdg) : Nat := b.2.2.sz
def szA (a : Alg) : Nat := a.2.2.sz
def bdy (c : Cr) : List Cr := c.binds.map fun b => b.2.2
theorem fA_len (G : List ByteArray) : ∀ (l : List Alg) (out : List ByteArray), (fA G out l).length ≤ out.length + (l.map szA).sum
 | [], out => by simp [fA]
 | p :: l, out => by
  have h1 := fA_len G l (insAll (bar (G ++ p.2.1)) out p.2.2.fv)
  have h2 := insAll_length (bar (G ++ p.2.1)) p.2.2.fv out
  have h3 := fv_len p.2.2
  show (fA G (insAll (bar (G ++ p.2.1)) out p.2.2.fv) l).length ≤ _
  have h4 : szA p = p.2.2.sz := rfl
  simp only [List.map_cons, List.sum_cons]; omega
theorem takeMp {α β : Type} {f : α → β} {l : List α} {k : Nat} (h : k < l.length) : (l.take (k + 1)).map f = (l.take k).map f ++ [f l[k]] := by
 rw [List.take_succ_eq_append_getElem h, List.map_append]; rfl
theorem sum_take {α : Type} (w : α → Nat) (l : List α) {k : Nat} (h : k < l.length) : ((l.take k).map w).sum + w l[k] ≤ (l.map w).sum := by
 induction l generalizing k with
 | nil => exact absurd h (Nat.not_lt_zero k)
 | cons a l ih =>
  cases k with
  | zero => simp
  | succ k =>
   have h1 := ih (k := k) (by simpa using h)
   simp only [List.take_succ_cons, List.map_cons, List.sum_cons, List.getElem_cons_succ]
   omega
theorem parts_sz2 {c : Cr} (hn : c.isN = true) (ho : c.Ok) : (c.kids.map Cr.sz).sum + (c.binds.map szB).sum + (c.alts.map szA).sum + 1 = c.sz := by
 have h := parts_sz c ho
 rw [hn] at h
 simp only [if_true] at h
 exact h
abbrev rfreeSays (c : Cr) (g out : List ByteArray) : Prop := CallsG Tryz.prog (fnv 91) [] [eC c, .sl (eSs g), .sl (eSs out)] [0, 0, 2] fun r o h => r = .sl (eSs (insAll (bar g) out c.fv)) ∧ o = 2 ∧ h = []
theorem rfree18_step (N : Nat) (c : Cr) (hn : c.isN = true) (ho : c.Ok) (hf : c.Few) (hs : c.sz ≤ N + 1) (hN : N < 900) (g out : List ByteArray) (hg : g.length + 20000 * c.sz ≤ 19000000) (hout : out.length + c.sz ≤ 1900000)
  (ih : ∀ (p : Cr) (g out : List ByteArray), p.isN = true → p.Ok → p.Few → p.sz ≤ N → g.length + 20000 * p.sz ≤ 19000000 → out.length + p.sz ≤ 1900000 → rfreeSays p g out) : rfreeSays c g out := by
 have hl := lens_sz c ho
 have hsum := parts_sz2 hn ho
 have hc0 := sz_posC hn
 show CallsG Tryz.prog (fnv 91) [] [eC c, .sl (eSs g), .sl (eSs out)] [0, 0, 2] _
 refine callsG_of_wsemO (first := []) (cap := []) ttok mixed Tryz.func91 rfl (by rfl) (by rfl) (Nat.le_of_ble_eq_true rfl) (Nat.le_of_ble_eq_true rfl) (by kernel_rfl) ?_
 by_cases h1 : c.f = 1
 ·have hfv : c.fv = [c.s] := by
   cases c with
   | node f n s t k =>
    have h1 : f = 1 := h1
    subst h1
    exact fv_var _ _ _ _
   | _ => cases hn
  rw [hfv]
  refine Wsem.of ttok mixed ?_
  refine ⟨fun _ => ?_, fun h => absurd h (by simp [h1])⟩
  refine .inl ⟨_, has_ok (l := g) (s := c.s) (by omega), ?_⟩
  refine ⟨fun h2 => ?_, fun h2 => ?_⟩
  ·have h2 : memb c.s g = false := by simpa using h2
   refine .inl ⟨_, has_ok (l := out) (s := c.s) (by omega), ?_⟩
   refine ⟨fun h3 => ?_, fun h3 => ?_⟩
   ·have h3 : memb c.s out = false := by simpa using h3
    refine ⟨by rw [lenS]; simp only [List.length_cons, List.length_nil]; omega, uniS _, uni1 rfl, ?_⟩
    refine ⟨?_, rfl, rfl⟩
    show AV.sl (eSs out ++ [str c.s]) = AV.sl (eSs (ins (bar g) out c.s))
    rw [ins_yes h3 h2]; simp [eSs]
   ·have h3 : memb c.s out = true := by simpa using h3
    refine ⟨?_, rfl, rfl⟩
    show AV.sl (eSs out) = AV.sl (eSs (ins (bar g) out c.s))
    rw [ins_no (.inl h3)]
  ·have h2 : memb c.s g = true := by simpa using h2
   refine ⟨?_, rfl, rfl⟩
   show AV.sl (eSs out) = AV.sl (eSs (ins (bar g) out c.s))
   rw [ins_no (.inr h2)]
 have hout2 := fv_out hn ho h1 g out
 obtain ⟨G, hG⟩ : ∃ G, G = g ++ c.names0 := ⟨_, rfl⟩
 rw [← hG] at hout2
 have hnm : c.names0 = c.own ++ c.binds.map (·.1) := rfl
 have hol : c.own.length ≤ 1 := by
  cases c with
  | node f n s t k => show (if f = 5 then [s] else []).length ≤ 1; split <;> simp
  | _ => cases hn
 have hGl : G.length ≤ g.length + 1 + c.binds.length := by rw [hG, hnm]; simp only [List.length_append, List.length_map]; omega
 have hG' : g ++ c.own ++ c.binds.map (·.1) = G := by rw [hG, hnm, List.append_assoc]
 have hG := hG'.symm
 have tail : Wsem Tryz.prog (sndC (sndC (sndC (sndC (sndC (bodyC Tryz.f91)))))) (mkC { vs := [(2, .v (.sl (eSs out))), (3, .box 0 (eC c)), (7, .v (.sl (eSs (g ++ c.own))))], ow := [(7, 0, 2), (2, 0, 2)] })
   (fun c2 => RetG tt Tryz.f91.results.toList (fun r o h => r = .sl (eSs (insAll (bar g) out c.fv)) ∧ o = 2 ∧ h = []) (den c2)) (fun _ _ => False) (fun c2 => RetG tt Tryz.f91.results.toList (fun r o h => r = .sl (eSs (insAll (bar g) out c.fv)) ∧ o = 2 ∧ h = []) (den c2)) := by
  refine Wsem.seq ttok mixed ?_
  refine ⟨{k : Nat // k ≤ c.binds.length}, fun k => { vs := [(2, .v (.sl (eSs out))), (3, .box 0 (eC c)), (7, .v (.sl (eSs (g ++ c.own ++ (c.binds.take k.1).map (·.1))))), (8, sv (k.1 : Nat))], ow := [(7, 0, 2), (2, 0, 2)] },
   fun k => c.binds.length - k.1, ⟨0, Nat.zero_le _⟩, ⟨⟨rfl, rfl, congrArg (fun l => SV.v (AV.sl l)) (by simp), rfl, trivial⟩, ⟨rfl, rfl, trivial⟩, rfl⟩, ?_⟩
  rintro ⟨k, hk⟩
  refine ⟨fun h => ?_, fun h => ?_⟩
  ·have h : k < c.binds.length := by have h := of_decide_eq_true h; rw [lenB] at h; simp only at h; omega
   refine ⟨_, by omega, getB1 h, rfl, ?_⟩
   refine ⟨by rw [lenS]; simp only [List.length_append, List.length_map, List.length_take, List.length_cons, List.length_nil]; omega, uniS _, uni1 rfl, ?_⟩
   refine ⟨⟨k + 1, h⟩, by simp; omega, ⟨rfl, rfl, ?_, svc (wrap_succ (k := k) (by omega)), trivial⟩, ⟨rfl, rfl, trivial⟩, rfl⟩
   show SV.v (AV.sl (eSs (g ++ c.own ++ (c.binds.take k).map (·.1)) ++ [str c.binds[k].1])) = SV.v (AV.sl (eSs (g ++ c.own ++ (c.binds.take (k + 1)).map (·.1))))
   rw [takeMp (f := fun b : Bdg => b.1) h, ← List.append_assoc]
   simp [eSs]
  have h : k = c.binds.length := by have h := of_decide_eq_false h; rw [lenB] at h; simp only at h; omega
  subst h
  refine Wsem.cut { vs := [(2, .v (.sl (eSs out))), (3, .box 0 (eC c)), (7, .v (.sl (eSs G)))], ow := [(2, 0, 2)] } ⟨⟨rfl, rfl, by rw [List.take_length, hG]; rfl, trivial⟩, ⟨rfl, trivial⟩, rfl⟩ ?_
  refine Wsem.seq ttok mixed ?_
  refine ⟨{k : Nat // k ≤ c.kids.length}, fun k => { vs := [(2, .v (.sl (eSs (fK G out (c.kids.take k.1))))), (3, .box 0 (eC c)), (7, .v (.sl (eSs G))), (9, sv (k.1 : Nat))], ow := [(2, 0, 2)] },
   fun k => c.kids.length - k.1, ⟨0, Nat.zero_le _⟩, ⟨⟨rfl, rfl, rfl, rfl, trivial⟩, ⟨rfl, trivial⟩, rfl⟩, ?_⟩
  rintro ⟨k, hk1⟩
  refine ⟨fun h => ?_, fun h => ?_⟩
  ·have h : k < c.kids.length := by have h := of_decide_eq_true h; rw [lenC] at h; simp only at h; omega
   have hsz := sz_kid (List.getElem_mem h)
   rw [hn] at hsz; simp only [if_true] at hsz
   have hw := sum_take Cr.sz c.kids h
   have hi := fK_len G (c.kids.take k) out
   refine ⟨_, by omega, getC0 h, rfl, ?_⟩
   refine .inr (.inr (.inr (.inr (.inl (.inr ⟨rfl, [], [], [0, 0, 2], _, rfl, List.nodup_nil, rfl, ih c.kids[k] G (fK G out (c.kids.take k)) (ho.kid (List.getElem_mem h)).1 (ho.kid (List.getElem_mem h)).2 (hf.kid (List.getElem_mem h)) (by omega) (by omega) (by omega), ?_⟩)))))
   rintro _ _ _ ⟨rfl, rfl, rfl⟩
   refine ⟨⟨k + 1, h⟩, by simp; omega, ⟨?_, rfl, rfl, svc (wrap_succ (k := k) (by omega)), trivial⟩, ⟨rfl, trivial⟩, rfl⟩
   show SV.v (AV.sl (eSs _)) = SV.v (AV.sl (eSs _))
   rw [fK_take h]
  have h : k = c.kids.length := by have h := of_decide_eq_false h; rw [lenC] at h; simp only at h; omega
  subst h
  have hi1 := fK_len G c.kids out
  obtain ⟨out1, ho1⟩ : ∃ o, o = fK G out c.kids := ⟨_, rfl⟩
  rw [← ho1] at hi1
  refine Wsem.cut { vs := [(2, .v (.sl (eSs out1))), (3, .box 0 (eC c)), (7, .v (.sl (eSs G)))], ow := [(2, 0, 2)] } ⟨⟨by rw [List.take_length, ho1]; rfl, rfl, rfl, trivial⟩, ⟨rfl, trivial⟩, rfl⟩ ?_
  refine Wsem.seq ttok mixed ?_
  refine ⟨{k : Nat // k ≤ c.binds.length}, fun k => { vs := [(2, .v (.sl (eSs (fK G out1 ((bdy c).take k.1))))), (3, .box 0 (eC c)), (7, .v (.sl (eSs G))), (10, sv (k.1 : Nat))], ow := [(2, 0, 2)] },
   fun k => c.binds.length - k.1, ⟨0, Nat.zero_le _⟩, ⟨⟨rfl, rfl, rfl, rfl, trivial⟩, ⟨rfl, trivial⟩, rfl⟩, ?_⟩
  rintro ⟨k, hk2⟩
  refine ⟨fun h => ?_, fun h => ?_⟩
  ·have h : k < c.binds.length := by have h := of_decide_eq_true h; rw [lenB] at h; simp only at h; omega
   have h' : k < (bdy c).length := by simpa [bdy] using h
   have e' : (bdy c)[k] = c.binds[k].2.2 := List.getElem_map _
   have hsz := sz_bind (List.getElem_mem h)
   rw [hn] at hsz; simp only [if_true] at hsz
   have hw := sum_take Cr.sz (bdy c) h'
   rw [e'] at hw
   have hw2 : ((bdy c).map Cr.sz).sum = (c.binds.map szB).sum := by unfold bdy; rw [List.map_map]; rfl
   have hi := fK_len G ((bdy c).take k) out1
   refine ⟨_, by omega, getB1 h, rfl, ?_⟩
   refine .inr (.inr (.inr (.inr (.inl (.inr ⟨rfl, [], [], [0, 0, 2], _, rfl, List.nodup_nil, rfl, ih c.binds[k].2.2 G (fK G out1 ((bdy c).take k)) (ho.bind (List.getElem_mem h)).1 (ho.bind (List.getElem_mem h)).2 (hf.bind (List.getElem_mem h)) (by omega) (by omega) (by omega), ?_⟩)))))
   rintro _ _ _ ⟨rfl, rfl, rfl⟩
   refine ⟨⟨k + 1, h⟩, by simp; omega, ⟨?_, rfl, rfl, svc (wrap_succ (k := k) (by omega)), trivial⟩, ⟨rfl, trivial⟩, rfl⟩
   show SV.v (AV.sl (eSs _)) = SV.v (AV.sl (eSs _))
   rw [fK_take h', e']
  have h : k = c.binds.length := by have h := of_decide_eq_false h; rw [lenB] at h; simp only at h; omega
  subst h
  have hi2 := fK_len G (bdy c) out1
  have hw2 : ((bdy c).map Cr.sz).sum = (c.binds.map szB).sum := by unfold bdy; rw [List.map_map]; rfl
  obtain ⟨out2, ho2⟩ : ∃ o, o = fK G out1 (bdy c) := ⟨_, rfl⟩
  rw [← ho2] at hi2
  have e2 : (bdy c).take c.binds.length = bdy c := List.take_of_length_le (by simp [bdy])
  refine Wsem.cut { vs := [(2, .v (.sl (eSs out2))), (3, .box 0 (eC c)), (7, .v (.sl (eSs G)))], ow := [(2, 0, 2)] } ⟨⟨by rw [e2, ho2]; rfl, rfl, rfl, trivial⟩, ⟨rfl, trivial⟩, rfl⟩ ?_
  refine Wsem.seqS (Wsem.seq ttok mixed ?_)
  refine Wsem.block (Wsem.loop (α := {k : Nat // k ≤ c.alts.length}) (fun k => { vs := [(2, .v (.sl (eSs (fA G out2 (c.alts.take k.1))))), (3, .box 0 (eC c)), (7, .v (.sl (eSs G))), (11, sv (k.1 : Nat))], ow := [(2, 0, 2)] })
   (fun k => c.alts.length - k.1) ⟨0, Nat.zero_le _⟩ ⟨⟨rfl, rfl, rfl, rfl, trivial⟩, ⟨rfl, trivial⟩, rfl⟩ ?_)
  rintro ⟨k, hk3⟩
  refine Wsem.seq ttok mixed ?_
  refine ⟨fun h => ?_, fun h => ?_⟩
  ·have h : k < c.alts.length := by have h := of_decide_eq_true h; rw [lenA] at h; simp only at h; omega
   have hsz := sz_alt (List.getElem_mem h)
   rw [hn] at hsz; simp only [if_true] at hsz
   have hvl := (hf.alt (List.getElem_mem h)).2
   have hw := sum_take szA c.alts h
   have hwa : szA c.alts[k] = c.alts[k].2.2.sz := rfl
   have hi := fA_len G (c.alts.take k) out2
   have hal := getA2 h
   refine Wsem.seqS (Wsem.block ?_)
   refine Wsem.seq ttok mixed ?_
   refine Wsem.seq ttok mixed ?_
   refine ⟨by show ([] : List AV).length + (eSs G).length ≤ _; rw [lenS]; simp only [List.length_nil]; omega, uni0 1, uniS _, ?_⟩
   refine Wsem.regionTA openOwn_spec ttok mixed [0, 1, 2, 3, 4, 5, 6, 7, 8, 9, 10, 11, 12, 13, 14, 15, 16] [false, false, false, false, false, false, false, false, false, false, false, false, false, false, false, true] (by kernel_rfl) ?_
   refine ⟨_, by omega, getA2 h, rfl, ?_⟩
   refine ⟨_, by omega, getA2 h, rfl, ?_⟩
   refine ⟨by show ([] ++ eSs G).length + (eSs c.alts[k].2.1).length ≤ _; rw [List.nil_append, lenS, lenS]; omega, uniS G, uniS _, ?_⟩
   have hcall := ih c.alts[k].2.2 (G ++ c.alts[k].2.1) (fA G out2 (c.alts.take k)) (ho.alt (List.getElem_mem h)).1 (ho.alt (List.getElem_mem h)).2.1 (hf.alt (List.getElem_mem h)).1 (by omega) (by rw [List.length_append]; omega) (by omega)
   rw [rfreeSays, show eSs (G ++ c.alts[k].2.1) = eSs G ++ eSs c.alts[k].2.1 by simp [eSs]] at hcall
   refine ⟨[], [], [0, 0, 2], _, rfl, List.nodup_nil, rfl, hcall, ⟨_, _, _, rfl, rfl, rfl⟩, ?_⟩
   rintro _ _ _ ⟨rfl, rfl, rfl⟩
   refine ⟨by kernel_rfl, ?_⟩
   refine Wsem.of ttok mixed ?_
   refine ⟨⟨k + 1, h⟩, by simp; omega, ⟨?_, rfl, rfl, svc (wrap_succ (k := k) (by omega)), trivial⟩, ⟨rfl, trivial⟩, rfl⟩
   show SV.v (AV.sl (eSs _)) = SV.v (AV.sl (eSs _))
   rw [fA_take h]
  have h : k = c.alts.length := by have h := of_decide_eq_false h; rw [lenA] at h; simp only at h; omega
  subst h
  refine Wsem.of ttok mixed ?_
  rw [List.take_length]
  refine ⟨?_, rfl, rfl⟩
  show AV.sl (eSs _) = _
  rw [hout2, ← ho1]
  show AV.sl (eSs (fA G out2 c.alts)) = AV.sl (eSs (fA G (fK G out1 (bdy c)) c.alts))
  rw [← ho2]
 refine Wsem.seq ttok mixed ?_
 refine Wsem.seqS (Wsem.seq ttok mixed ?_)
 refine Wsem.cond rfl (fun h => absurd (of_decide_eq_true h) h1) (fun _ => ?_)
 refine Wsem.of ttok mixed ?_
 refine Wsem.seq ttok mixed ?_
 refine Wsem.seq ttok mixed ?_
 refine ⟨by rw [lenS]; simp only [List.length_nil]; omega, uni0 1, uniS _, ?_⟩
 refine Wsem.seqS (Wsem.seq ttok mixed ?_)
 refine Wsem.cond rfl (fun h => ?_) (fun h => ?_)
 ·have h5 : c.f = 5 := of_decide_eq_true h
  have e : c.own = [c.s] := by
   cases c with
   | node f n s t k => show (if f = 5 then [s] else []) = [s]; rw [if_pos (show f = 5 from h5)]
   | _ => cases hn
  refine Wsem.of ttok mixed ?_
  refine ⟨by show ([] ++ eSs g).length + 1 ≤ _; rw [List.nil_append, lenS]; omega, uniS g, uni1 rfl, ?_⟩
  refine Wsem.cut _ ?_ tail
  refine ⟨⟨rfl, rfl, ?_, trivial⟩, ⟨rfl, rfl, trivial⟩, rfl⟩
  show SV.v (AV.sl (eSs g ++ [str c.s])) = SV.v (AV.sl (eSs (g ++ c.own)))
  rw [e]; simp [eSs]
 ·have h5 : ¬ c.f = 5 := of_decide_eq_false h
  have e : c.own = [] := by
   cases c with
   | node f n s t k => show (if f = 5 then [s] else []) = []; rw [if_neg (show ¬ f = 5 from h5)]
   | _ => cases hn
  refine Wsem.of ttok mixed ?_
  refine Wsem.cut _ ?_ tail
  refine ⟨⟨rfl, rfl, ?_, trivial⟩, ⟨rfl, rfl, trivial⟩, rfl⟩
  show SV.v (AV.sl (eSs g)) = SV.v (AV.sl (eSs (g ++ c.own)))
  rw [e]; simp
theorem rfree18_ok (N : Nat) (hN : N < 900) : ∀ (c : Cr) (g out : List ByteArray), c.isN = true → c.Ok → c.Few → c.sz ≤ N → g.length + 20000 * c.sz ≤ 19000000 → out.length + c.sz ≤ 1900000 → rfreeSays c g out := by
 induction N with
 | zero => intro c g out hn _ _ hs; have := sz_posC hn; omega
 | succ N ih => exact fun c g out hn ho hf hs hg hout => rfree18_step N c hn ho hf hs (by omega) g out hg hout (ih (by omega))
theorem rFree18_ok {c : Cr} (hc : Sm c) : ACall Tryz.prog 45 [eC c] (.sl (eSs c.fv)) := by
 have hs := hc.sz
 refine owned_weak (k := 2) ?_
 refine callsG_of_wc (first := []) (cap := []) (os := []) ttok mixed Tryz.func45 rfl (by rfl) (by rfl) (Nat.le_of_ble_eq_true rfl) (Nat.le_of_ble_eq_true rfl) (by kernel_rfl) ?_
 refine .inr ⟨rfl, [], [], [0, 0, 2], _, rfl, List.nodup_nil, rfl, rfree18_ok 600 (by decide) c [] [] hc.n hc.ok hc.gd.few (by omega) (by simp; omega) (by simp; omega), ?_⟩
 rintro _ _ _ ⟨rfl, rfl, rfl⟩
 refine ⟨?_, rfl, rfl⟩
 show AV.sl (eSs (insAll (fun y => memb y []) [] c.fv)) = _
 rw [ins_bar _ (fvC_nodup c), List.filter_eq_self.2 (fun y _ => by simp [memb])]
theorem ff_congr {l l' : List ByteArray} (h : ∀ s, s ∈ l ↔ s ∈ l') : ff l = ff l' := by
 rcases Nat.lt_trichotomy (ff l) (ff l') with h1 | h1 | h1
 ·exact absurd ((h _).2 (ff_old l' _ h1)) (ff_new l)
 ·exact h1
 ·exact absurd ((h _).1 (ff_old l _ h1)) (ff_new l')
theorem rens_congr (far : List ByteArray) : ∀ (ns tk tk' : List ByteArray), (∀ s, s ∈ tk ↔ s ∈ tk') → rens far ns tk = rens far ns tk' ∧ outs far ns tk = outs far ns tk'
 | [], _, _, _ => ⟨rfl, rfl⟩
 | n :: ns, tk, tk', h => by
  have e := ff_congr h
  simp only [rens, outs]
  rw [e]
  have h1 := rens_congr far ns (tk ++ [lett (ff tk')]) (tk' ++ [lett (ff tk')]) (fun s => by simp [h s])
  have h2 := rens_congr far ns tk tk' h
  rw [h1.1, h1.2, h2.1, h2.2]
  exact ⟨rfl, rfl⟩
noncomputable def gvn (N : Nat) (ns : List ByteArray) (ps : List Cr) (s : ByteArray) (b : Cr) : List ByteArray × List Cr :=
 if s ∈ ps.flatMap Cr.fv ∧ s ∉ ns then (outs b.fv ns (ps.flatMap Cr.fv ++ b.fv ++ ns), ps.map fun p => sbF N (renF N (rens b.fv ns (ps.flatMap Cr.fv ++ b.fv ++ ns)) p) s b) else (ns, ps)
theorem gvn_none {N : Nat} {ns : List ByteArray} {ps : List Cr} {s : ByteArray} {b : Cr} (h : plan (ps.flatMap Cr.fv) ns s b.fv = none) : gvn N ns ps s b = (ns, ps) := by
 unfold gvn
 rw [if_neg fun ⟨h1, h2⟩ => h2 (plan_none h h1)]
theorem gvn_some {N : Nat} {ns : List ByteArray} {ps : List Cr} {s : ByteArray} {b : Cr} {rs : List (ByteArray × ByteArray)} (hn : ns.Nodup) (h : plan (ps.flatMap Cr.fv) ns s b.fv = some rs) :
  gvn N ns ps s b = (ns.map (nw rs), ps.map fun p => sbF N (renF N rs p) s b) := by
 obtain ⟨h1, h2, h3⟩ := plan_some h
 unfold gvn
 have e := rens_congr b.fv ns (ps.flatMap Cr.fv ++ b.fv ++ ns) (ps.flatMap Cr.fv ++ ns ++ b.fv) (fun s => by simp only [List.mem_append]; constructor <;> (intro h; rcases h with (h | h) | h <;> simp [h]))
 rw [if_pos ⟨h1, h2⟩, e.1, e.2, ← h3, ← map_nw b.fv ns _ hn, ← h3]
theorem mapG_same {φ : Cr → Cr} {ν : ByteArray → ByteArray} {α : List ByteArray → Cr → List ByteArray × Cr} {g : Cr} (h : g.isN = false) (ho : g.Ok) (hk : ∀ p ∈ g.kids, φ p = p) (hb : ∀ b ∈ g.binds, ν b.1 = b.1 ∧ φ b.2.2 = b.2.2) (ha : ∀ a ∈ g.alts, α a.2.1 a.2.2 = (a.2.1, a.2.2)) : mapG φ id ν α g = g := by
 induction g with
 | nil => rfl
 | node => cases h
 | kid p r _ ih =>
  show Cr.kid (φ p) (mapG φ id ν α r) = _
  rw [hk p (List.mem_cons_self ..), ih ho.2.1 ho.2.2.2 (fun q hq => hk q (List.mem_cons_of_mem _ hq)) hb ha]
 | bind x t p r _ ih =>
  show Cr.bind (ν x) t (φ p) (mapG φ id ν α r) = _
  have h1 := hb (x, t, p) (List.mem_cons_self ..)
  rw [show ν x = x from h1.1, show φ p = p from h1.2, ih ho.2.1 ho.2.2.2.2 hk (fun q hq => hb q (List.mem_cons_of_mem _ hq)) ha]
 | alt f n s vs p r _ ih =>
  show Cr.alt f n s (α vs p).1 (α vs p).2 (mapG φ id ν α r) = _
  have h1 := ha ((f, n, s), vs, p) (List.mem_cons_self ..)
  rw [show α vs p = (vs, p) from h1, ih ho.2.1 ho.2.2.2.2.2.2 hk hb (fun q hq => ha q (List.mem_cons_of_mem _ hq))]
theorem sb_same (k : Nat) : ∀ (c : Cr) (x : ByteArray) (b : Cr), c.isN = true → c.Ok → x ∉ c.fv → sbF k c x b = c := by
 intro c x b hn ho hx
 cases k with
 | zero => cases c <;> rfl
 | succ k =>
  cases c with
  | node f n s t g =>
   obtain ⟨g1, g2⟩ := node_lst ho
   rw [sbF]
   split
   ·rename_i h1
    subst h1
    rw [fv_var] at hx
    rw [if_neg fun h => hx (by simp [h])]
   ·rename_i h1
    split
    ·rfl
    ·rename_i h7
     have hfv : ∀ y, y ∈ g.fv → y ∉ (Cr.node f n s t g).names0 → y ∈ (Cr.node f n s t g).fv := fun y hy hy2 => by
      have e1 : (Cr.node f n s t g).fv = insAll (fun y => memb y (Cr.node f n s t g).names0) [] g.fv := by
       show (if f = 1 then [s] else _) = _
       rw [if_neg h1]
      rw [e1, mem_insAll]
      exact .inr ⟨hy, by cases hm : memb y (Cr.node f n s t g).names0 with | true => exact absurd (memb_iff.1 hm) hy2 | false => rfl⟩
     have hp : plan (g.parts0.flatMap Cr.fv) (Cr.node f n s t g).names0 x b.fv = none := by
      unfold plan
      rw [if_neg]
      rintro ⟨h3, h4⟩
      obtain ⟨p, hp, hxp⟩ := List.mem_flatMap.1 h3
      refine hx (hfv x ?_ h4)
      rcases List.mem_append.1 hp with hp | hp
      ·exact fvk g1 g2 p hp x hxp
      ·obtain ⟨bb, hb, rfl⟩ := List.mem_map.1 hp
       exact fvb g1 g2 bb hb x hxp
     rw [hp]
     show Cr.node f n s t (mapG id id id _ g) = _
     refine congrArg (Cr.node f n s t) (mapG_same g1 g2 (fun p _ => rfl) (fun b _ => ⟨rfl, rfl⟩) fun a ha => ?_)
     have hpa : plan a.2.2.fv a.2.1 x b.fv = none := by
      unfold plan
      rw [if_neg]
      rintro ⟨h3, h4⟩
      have h5 := fva g1 g2 a ha x h3 h4
      refine hx (hfv x h5 ?_)
      rw [names0_alt ho (fun e => by rw [e] at ha; cases ha)]
      simp
     unfold altF
     rw [hpa]
  | _ => cases hn
theorem rvar_ok (s : ByteArray) : ACall Tryz.prog 105 [str s] (eC (vr s)) := by
 refine acall_of_wcx ttok mixed Tryz.func105 rfl (by rfl) (Nat.le_of_ble_eq_true rfl) (by kernel_rfl) ?_
 exact rfl
abbrev RsbIH (N : Nat) : Prop := ∀ (d : Cr) (y : ByteArray) (b : Cr), Sm d → d.sz ≤ N → Sm b → ACall Tryz.prog 18 [eC d, str y, eC b] (eC (sbF N d y b))
structure GvI (N : Nat) (ns : List ByteArray) (ps : List Cr) (far tk0 : List ByteArray) (x : Nat × List ByteArray × List Cr × List ByteArray) : Prop where
 le : x.1 ≤ ns.length
 tk : x.2.1.length ≤ tk0.length + x.1
 len : x.2.2.1.length = ps.length
 sm : ∀ q ∈ x.2.2.1, Sm q ∧ q.sz ≤ N
 out : x.2.2.2 ++ outs far (ns.drop x.1) x.2.1 = outs far ns tk0
 dn : x.2.2.2.length = x.1
 bod : x.2.2.1.map (renF N (rens far (ns.drop x.1) x.2.1)) = ps.map (renF N (rens far ns tk0))
theorem GvI.stay {N : Nat} {ns : List ByteArray} {ps : List Cr} {far tk0 : List ByteArray} {k : Nat} {tk : List ByteArray} {qs : List Cr} {dn : List ByteArray} (h : GvI N ns ps far tk0 (k, tk, qs, dn)) (hk : k < ns.length) (hf : ns[k] ∉ far) :
  GvI N ns ps far tk0 (k + 1, tk, qs, dn ++ [ns[k]]) := by
 obtain ⟨a1, a2, a3, a4, a5, a6, a7⟩ := h
 simp only at a1 a2 a3 a4 a5 a6 a7
 rw [List.drop_eq_getElem_cons hk] at a5 a7
 simp only [outs, rens] at a5 a7
 rw [if_neg hf] at a5 a7
 exact ⟨hk, by simp only; omega, a3, a4, by rw [← a5]; simp, by simp [a6], a7⟩
theorem GvI.new {N : Nat} {ns : List ByteArray} {ps : List Cr} {far tk0 : List ByteArray} {k : Nat} {tk : List ByteArray} {qs : List Cr} {dn : List ByteArray} (h : GvI N ns ps far tk0 (k, tk, qs, dn)) (hk : k < ns.length) (hf : ns[k] ∈ far) :
  GvI N ns ps far tk0 (k + 1, tk ++ [lett (ff tk)], qs.map (fun q => sbF N q ns[k] (vr (lett (ff tk)))), dn ++ [lett (ff tk)]) := by
 obtain ⟨a1, a2, a3, a4, a5, a6, a7⟩ := h
 simp only at a1 a2 a3 a4 a5 a6 a7
 rw [List.drop_eq_getElem_cons hk] at a5 a7
 simp only [outs, rens] at a5 a7
 rw [if_pos hf] at a5 a7
 refine ⟨hk, by simp only [List.length_append, List.length_cons, List.length_nil]; omega, by simp [a3], fun q hq => ?_, by rw [← a5]; simp, by simp [a6], ?_⟩
 ·obtain ⟨p, hp, rfl⟩ := List.mem_map.1 hq
  have h1 := (a4 p hp).1.sb N ns[k] (lett (ff tk))
  exact ⟨h1.1, by rw [h1.2]; exact (a4 p hp).2⟩
 ·rw [← a7, List.map_map]
  rfl
theorem memb_app (s : ByteArray) (l m : List ByteArray) : memb s (l ++ m) = (memb s l || memb s m) := by
 rw [Bool.eq_iff_iff]; simp [memb]
theorem flat_takeF {l : List Cr} {k : Nat} (h : k < l.length) : (l.take (k + 1)).flatMap Cr.fv = (l.take k).flatMap Cr.fv ++ l[k].fv := by
 rw [List.take_succ_eq_append_getElem h, List.flatMap_append]; simp
theorem flat_len (l : List Cr) (k : Nat) : ((l.take k).flatMap Cr.fv).length ≤ (l.flatMap Cr.fv).length := by
 conv => rhs; rw [← List.take_append_drop k l]
 rw [List.flatMap_append, List.length_append]; omega
theorem given_ok (N : Nat) (ih : RsbIH N) (ns : List ByteArray) (ps : List Cr) (s : ByteArray) (b : Cr) (hnl : ns.length ≤ 591) (hpl : ps.length ≤ 591) (hps : ∀ p ∈ ps, Sm p ∧ p.sz ≤ N) (hfl : (ps.flatMap Cr.fv).length ≤ 590) (hb : Sm b) :
  ACall Tryz.prog 60 [.sl (eSs ns), .sl (eCs ps), str s, eC b] (.tup [.sl (eSs (gvn N ns ps s b).1), .sl (eCs (gvn N ns ps s b).2)]) := by
 have hbl := fv_len b
 have hbs := hb.sz
 obtain ⟨X, hX⟩ : ∃ X, X = gvn N ns ps s b := ⟨_, rfl⟩
 rw [← hX]
 unfold gvn at hX
 refine acall_of_wsem ttok mixed Tryz.func60 rfl (by rfl) (Nat.le_of_ble_eq_true rfl) (by kernel_rfl) ?_
 refine Wsem.seq ttok mixed ?_
 refine Wsem.seq ttok mixed ?_
 refine Wsem.seq ttok mixed ?_
 refine Wsem.seqS (Wsem.seq ttok mixed ?_)
 refine Wsem.of ttok mixed ?_
 refine ⟨{k : Nat // k ≤ ps.length}, fun k => { vs := [(0, .v (.sl (eSs ns))), (1, .v (.sl (eCs ps))), (2, .v (str s)), (7, .box 0 (eC b)), (8, .v (.sl [])), (9, .v (.sl [])), (10, .v (.sl (eSs ((ps.take k.1).flatMap Cr.fv)))), (11, .v (.sb (memb s ((ps.take k.1).flatMap Cr.fv)))), (12, sv (k.1 : Nat))], ow := [(10, 0, 2)] },
  fun k => ps.length - k.1, ⟨0, Nat.zero_le _⟩, ⟨⟨rfl, rfl, rfl, rfl, rfl, rfl, rfl, rfl, rfl, trivial⟩, ⟨trivial, trivial⟩, rfl⟩, ?_⟩
 rintro ⟨k, hk⟩
 refine ⟨fun h => ?_, fun h => ?_⟩
 ·have h : k < ps.length := by have h := of_decide_eq_true h; simp only [eCs, List.length_map] at h; omega
  have hp := hps _ (List.getElem_mem h)
  have hw1 := flat_len ps k
  have hw2 := flat_len ps (k + 1)
  have e10 : eSs ((ps.take k).flatMap Cr.fv) ++ eSs ps[k].fv = eSs ((ps.take (k + 1)).flatMap Cr.fv) := by rw [flat_takeF h]; simp [eSs]
  have e11 : memb s ((ps.take (k + 1)).flatMap Cr.fv) = (memb s ((ps.take k).flatMap Cr.fv) || memb s ps[k].fv) := by rw [flat_takeF h, memb_app]
  have hfk := fv_len ps[k]
  have hsk := hp.1.sz
  refine ⟨_, by omega, getC h, rfl, ?_⟩
  refine .inl ⟨_, rFree18_ok hp.1, ?_⟩
  refine ⟨by simp only [eSs, List.length_map]; omega, uniS _, uniS _, ?_⟩
  refine ⟨fun h2 => ?_, fun h2 => ?_⟩
  ·refine .inl ⟨_, has_ok (l := ps[k].fv) (s := s) (by omega), ?_⟩
   refine ⟨⟨k + 1, h⟩, by simp; omega, ⟨rfl, rfl, rfl, rfl, rfl, rfl, congrArg (fun l => SV.v (AV.sl l)) e10, ?_, svc (wrap_succ (k := k) (by omega)), trivial⟩, ⟨rfl, trivial⟩, rfl⟩
   have h2 : memb s ((ps.take k).flatMap Cr.fv) = false := by simpa using h2
   rw [e11, h2]; rfl
  ·refine ⟨⟨k + 1, h⟩, by simp; omega, ⟨rfl, rfl, rfl, rfl, rfl, rfl, congrArg (fun l => SV.v (AV.sl l)) e10, ?_, svc (wrap_succ (k := k) (by omega)), trivial⟩, ⟨rfl, trivial⟩, rfl⟩
   have h2 : memb s ((ps.take k).flatMap Cr.fv) = true := by simpa using h2
   rw [e11, h2]; rfl
 have h : k = ps.length := by have h := of_decide_eq_false h; simp only [eCs, List.length_map] at h; omega
 subst h
 refine Wsem.cut { vs := [(0, .v (.sl (eSs ns))), (1, .v (.sl (eCs ps))), (2, .v (str s)), (7, .box 0 (eC b)), (8, .v (.sl [])), (9, .v (.sl [])), (10, .v (.sl (eSs (ps.flatMap Cr.fv)))), (11, .v (.sb (memb s (ps.flatMap Cr.fv))))], ow := [(10, 0, 2)] } ⟨⟨rfl, rfl, rfl, rfl, rfl, rfl, by rw [List.take_length]; rfl, by rw [List.take_length]; rfl, trivial⟩, ⟨rfl, trivial⟩, rfl⟩ ?_
 obtain ⟨fr, hfr⟩ : ∃ l, l = ps.flatMap Cr.fv := ⟨_, rfl⟩
 rw [← hfr] at hfl hX ⊢
 have key : s ∈ fr → s ∉ ns → Wsem Tryz.prog (sndC (sndC (sndC (sndC (sndC (bodyC Tryz.f60)))))) (mkC { vs := [(0, .v (.sl (eSs ns))), (1, .v (.sl (eCs ps))), (2, .v (str s)), (7, .box 0 (eC b)), (8, .v (.sl [])), (9, .v (.sl [])), (10, .v (.sl (eSs fr)))], ow := [(10, 0, 2)] })
   (fun c => RetP tt Tryz.f60.results.toList (.tup [.sl (eSs X.1), .sl (eCs X.2)]) (den c)) (fun _ _ => False) (fun c => RetP tt Tryz.f60.results.toList (.tup [.sl (eSs X.1), .sl (eCs X.2)]) (den c)) := by
  intro hs1 hs2
  rw [if_pos ⟨hs1, hs2⟩] at hX
  subst hX
  obtain ⟨tk0, htk⟩ : ∃ l, l = fr ++ b.fv ++ ns := ⟨_, rfl⟩
  rw [← htk]
  have htl : tk0.length ≤ 590 + 590 + 591 := by rw [htk]; simp only [List.length_append]; omega
  refine Wsem.seq ttok mixed ?_
  refine .inl ⟨_, rFree18_ok hb, ?_⟩
  refine Wsem.seq ttok mixed ?_
  refine ⟨by rw [lenS, lenS]; omega, uniS _, uniS _, ?_⟩
  refine Wsem.seq ttok mixed ?_
  refine ⟨by rw [List.length_append, lenS, lenS, lenS]; omega, fun a ha => by rcases List.mem_append.1 ha with h | h <;> exact uniS _ _ h, uniS _, ?_⟩
  refine Wsem.cut { vs := [(0, .v (.sl (eSs ns))), (1, .v (.sl (eCs ps))), (2, .v (str s)), (7, .box 0 (eC b)), (8, .v (.sl [])), (9, .v (.sl [])), (10, .v (.sl (eSs tk0))), (14, .v (.sl (eSs b.fv)))], ow := [(10, 0, 2)] } ⟨⟨rfl, rfl, rfl, rfl, rfl, rfl, by rw [htk]; exact congrArg (fun l => SV.v (AV.sl l)) (by simp [eSs]), rfl, trivial⟩, ⟨rfl, trivial⟩, rfl⟩ ?_
  refine Wsem.seq ttok mixed ?_
  refine Wsem.seq ttok mixed ?_
  refine ⟨{x : Nat × List ByteArray × List Cr × List ByteArray // GvI N ns ps b.fv tk0 x}, fun x => { vs := [(0, .v (.sl (eSs ns))), (1, .v (.sl (eCs x.1.2.2.1))), (2, .v (str s)), (7, .box 0 (eC b)), (8, .v (.sl [])), (9, .v (.sl [])), (10, .v (.sl (eSs x.1.2.1))), (14, .v (.sl (eSs b.fv))), (15, .v (.sl (eSs x.1.2.2.2))), (16, sv (x.1.1 : Nat))], ow := [(10, 0, 2), (15, 0, 2)] },
   fun x => ns.length - x.1.1, ⟨(0, tk0, ps, []), ⟨Nat.zero_le _, Nat.le_refl _, rfl, hps, rfl, rfl, rfl⟩⟩, ⟨⟨rfl, rfl, rfl, rfl, rfl, rfl, rfl, rfl, rfl, rfl, trivial⟩, ⟨rfl, trivial, trivial⟩, rfl⟩, ?_⟩
  rintro ⟨⟨k, tk, qs, dn⟩, inv⟩
  have hk : k ≤ ns.length := inv.le
  have hql : qs.length = ps.length := inv.len
  have htkl : tk.length ≤ tk0.length + k := inv.tk
  have hdl : dn.length = k := inv.dn
  refine ⟨fun h => ?_, fun h => ?_⟩
  ·have h : k < ns.length := by have h := of_decide_eq_true h; rw [lenS] at h; simp only at h; omega
   refine ⟨_, by omega, getS h, rfl, ?_⟩
   refine .inl ⟨_, has_ok (l := b.fv) (s := ns[k]) (by omega), ?_⟩
   refine ⟨fun h3 => ?_, fun h3 => ?_⟩
   ·have h3 : ns[k] ∉ b.fv := fun hm => by rw [memb_iff.2 hm] at h3; cases h3
    refine ⟨_, by omega, getS h, rfl, ?_⟩
    refine ⟨by rw [lenS]; simp only [List.length_cons, List.length_nil]; omega, uniS _, uni1 rfl, ?_⟩
    refine ⟨⟨(k + 1, tk, qs, dn ++ [ns[k]]), inv.stay h h3⟩, by simp; omega, ⟨rfl, rfl, rfl, rfl, rfl, rfl, rfl, rfl, ?_, svc (wrap_succ (k := k) (by omega)), trivial⟩, ⟨rfl, rfl, trivial⟩, rfl⟩
    exact congrArg (fun l => SV.v (AV.sl l)) (by simp [eSs]; rfl)
   have h3 : ns[k] ∈ b.fv := by
    cases hm : memb ns[k] b.fv with
    | true => exact memb_iff.1 hm
    | false => rw [hm] at h3; cases h3
   have inv2 := inv.new h h3
   have hff := ff_len tk
   refine .inl ⟨_, rFresh_ok tk (by omega) (by omega), ?_⟩
   generalize lett (ff tk) = z at inv2
   refine ⟨by rw [lenS]; simp only [List.length_cons, List.length_nil]; omega, uniS _, uni1 rfl, ?_⟩
   refine ⟨by rw [lenS]; simp only [List.length_cons, List.length_nil]; omega, uniS _, uni1 rfl, ?_⟩
   refine ⟨{j : Nat // j ≤ qs.length}, fun j => { vs := [(0, .v (.sl (eSs ns))), (1, .v (.sl (eCs qs))), (2, .v (str s)), (7, .box 0 (eC b)), (8, .v (.sl [])), (9, .v (.sl [])), (10, .v (.sl (eSs (tk ++ [z])))), (14, .v (.sl (eSs b.fv))), (15, .v (.sl (eSs (dn ++ [z])))), (16, sv (k : Nat)), (17, .v (str z)), (18, .v (.sl ((qs.take j.1).map fun q => eC (sbF N q ns[k] (vr z))))), (19, sv (j.1 : Nat))], ow := [(10, 0, 2), (15, 0, 2), (18, 0, 11)] },
    fun j => qs.length - j.1, ⟨0, Nat.zero_le _⟩, ⟨⟨rfl, rfl, rfl, rfl, rfl, rfl, congrArg (fun l => SV.v (AV.sl l)) (by simp [eSs]; rfl), rfl, congrArg (fun l => SV.v (AV.sl l)) (by simp [eSs]; rfl), rfl, rfl, rfl, rfl, trivial⟩, ⟨rfl, rfl, trivial, trivial⟩, rfl⟩, ?_⟩
   rintro ⟨j, hj⟩
   refine ⟨fun h4 => ?_, fun h4 => ?_⟩
   ·have h4 : j < qs.length := by have h4 := of_decide_eq_true h4; simp only [eCs, List.length_map] at h4; omega
    have hq := inv.sm _ (List.getElem_mem h4)
    refine ⟨_, by omega, getC h4, rfl, ?_⟩
    refine ⟨_, by omega, getS h, rfl, ?_⟩
    refine .inl ⟨_, rvar_ok z, ?_⟩
    refine .inl ⟨_, ih qs[j] ns[k] (vr z) hq.1 hq.2 (vr_sm z), ?_⟩
    refine ⟨by simp; omega, fun a ha => by obtain ⟨x, _, rfl⟩ := List.mem_map.1 ha; rfl, uni1 rfl, ?_⟩
    refine ⟨by kernel_rfl, ?_⟩
    refine ⟨⟨j + 1, h4⟩, by simp; omega, ⟨rfl, rfl, rfl, rfl, rfl, rfl, rfl, rfl, rfl, rfl, rfl, ?_, svc (wrap_succ (k := j) (by omega)), trivial⟩, ⟨rfl, rfl, rfl, trivial⟩, rfl⟩
    exact congrArg (fun l => SV.v (AV.sl l)) (takeF (f := fun q => eC (sbF N q ns[k] (vr z))) h4).symm
   have h4 : j = qs.length := by have h4 := of_decide_eq_false h4; simp only [eCs, List.length_map] at h4; omega
   subst h4
   refine ⟨⟨_, inv2⟩, by simp; omega, ⟨rfl, ?_, rfl, rfl, rfl, rfl, rfl, rfl, rfl, svc (wrap_succ (k := k) (by omega)), trivial⟩, ⟨rfl, rfl, trivial⟩, rfl⟩
   show SV.v (AV.sl _) = SV.v (AV.sl (eCs (qs.map _)))
   rw [List.take_length, eCs, List.map_map]; rfl
  have h : k = ns.length := by have h := of_decide_eq_false h; rw [lenS] at h; simp only at h; omega
  subst h
  have hout := inv.out
  have hbod := inv.bod
  have hsm := inv.sm
  simp only [List.drop_length, outs, rens, List.append_nil] at hout hbod hsm
  have hbod : qs = ps.map (renF N (rens b.fv ns tk0)) := by rw [← hbod]; exact (List.map_id' qs).symm
  rw [← hout]
  have hres : (ps.map fun p => sbF N (renF N (rens b.fv ns tk0) p) s b) = qs.map fun q => sbF N q s b := by rw [hbod, List.map_map]; rfl
  rw [hres]
  refine Wsem.cut { vs := [(1, .v (.sl (eCs qs))), (2, .v (str s)), (7, .box 0 (eC b)), (8, .v (.sl [])), (9, .v (.sl [])), (15, .v (.sl (eSs dn)))], ow := [] } ⟨⟨rfl, rfl, rfl, rfl, rfl, rfl, trivial⟩, trivial, rfl⟩ ?_
  refine Wsem.seq ttok mixed ?_
  refine Wsem.seq ttok mixed ?_
  refine ⟨{j : Nat // j ≤ qs.length}, fun j => { vs := [(1, .v (.sl (eCs qs))), (2, .v (str s)), (7, .box 0 (eC b)), (8, .v (.sl [])), (9, .v (.sl [])), (15, .v (.sl (eSs dn))), (20, .v (.sl ((qs.take j.1).map fun q => eC (sbF N q s b)))), (21, sv (j.1 : Nat))], ow := [(20, 0, 11)] },
   fun j => qs.length - j.1, ⟨0, Nat.zero_le _⟩, ⟨⟨rfl, rfl, rfl, rfl, rfl, rfl, rfl, rfl, trivial⟩, ⟨trivial, trivial⟩, rfl⟩, ?_⟩
  rintro ⟨j, hj⟩
  refine ⟨fun h4 => ?_, fun h4 => ?_⟩
  ·have h4 : j < qs.length := by have h4 := of_decide_eq_true h4; simp only [eCs, List.length_map] at h4; omega
   have hq := hsm _ (List.getElem_mem h4)
   refine ⟨_, by omega, getC h4, rfl, ?_⟩
   refine .inl ⟨_, ih qs[j] s b hq.1 hq.2 hb, ?_⟩
   refine ⟨by simp; omega, fun a ha => by obtain ⟨x, _, rfl⟩ := List.mem_map.1 ha; rfl, uni1 rfl, ?_⟩
   refine ⟨by kernel_rfl, ?_⟩
   refine ⟨⟨j + 1, h4⟩, by simp; omega, ⟨rfl, rfl, rfl, rfl, rfl, rfl, ?_, svc (wrap_succ (k := j) (by omega)), trivial⟩, ⟨rfl, trivial⟩, rfl⟩
   exact congrArg (fun l => SV.v (AV.sl l)) (takeF (f := fun q => eC (sbF N q s b)) h4).symm
  have h4 : j = qs.length := by have h4 := of_decide_eq_false h4; simp only [eCs, List.length_map] at h4; omega
  subst h4
  refine Wsem.of ttok mixed ?_
  rw [List.take_length]
  show _ = AV.tup [.sl (eSs dn), .sl (eCs (qs.map fun q => sbF N q s b))]
  rw [eCs, List.map_map]
  exact rfl
 refine Wsem.seqS (Wsem.seq ttok mixed ?_)
 refine ⟨fun h2 => ?_, fun h2 => ?_⟩
 ·have h2 : s ∈ fr := by
   cases hm : memb s fr with
   | true => exact memb_iff.1 hm
   | false => rw [hm] at h2; cases h2
  refine .inl ⟨_, has_ok (l := ns) (s := s) (by omega), ?_⟩
  refine Wsem.cond rfl (fun h3 => ?_) (fun h3 => ?_)
  ·have h3 : s ∈ ns := memb_iff.1 h3
   rw [if_neg fun h => h.2 h3] at hX
   subst hX
   refine Wsem.of ttok mixed ?_
   exact rfl
  ·have h3 : s ∉ ns := fun hm => by rw [memb_iff.2 hm] at h3; cases h3
   refine Wsem.of ttok mixed ?_
   refine Wsem.cut _ ?_ (key h2 h3)
   exact ⟨⟨rfl, rfl, rfl, rfl, rfl, rfl, rfl, trivial⟩, ⟨rfl, trivial⟩, rfl⟩
 ·have h2 : s ∉ fr := fun hm => by rw [memb_iff.2 hm] at h2; cases h2
  rw [if_neg fun h => h2 h.1] at hX
  subst hX
  refine Wsem.of ttok mixed ?_
  exact rfl
noncomputable abbrev aP (N : Nat) (x : ByteArray) (b : Cr) : List ByteArray → Cr → List ByteArray × Cr := altF (fun rs p => sbF N (rs.foldl (fun p q => sbF N p q.1 (vr q.2)) p) x b) x b.fv
theorem gvn_alt {N : Nat} {vs : List ByteArray} {p : Cr} {x : ByteArray} {b : Cr} (hv : vs.Nodup) : gvn N vs [p] x b = ((aP N x b vs p).1, [(aP N x b vs p).2]) := by
 have e : [p].flatMap Cr.fv = p.fv := by simp
 unfold aP altF
 cases hp : plan p.fv vs x b.fv with
 | none => rw [gvn_none (by rw [e]; exact hp)]
 | some rs => rw [gvn_some hv (by rw [e]; exact hp)]; rfl
theorem sbF_gv (N : Nat) {f n : Int} {s : ByteArray} {t : Tp} {g : Cr} (ho : (Cr.node f n s t g).Ok) (h1 : ¬ f = 1) (h7 : ¬ f = 7) (x : ByteArray) (b : Cr) : ∃ (φ : Cr → Cr) (ν : ByteArray → ByteArray),
  gvn N (Cr.node f n s t g).names0 g.parts0 x b = ((Cr.node f n s t g).names0.map ν, g.parts0.map φ) ∧ ((Cr.node f n s t g).names0 = [] → φ = (fun p => sbF N p x b) ∨ (φ = id ∧ x ∉ g.parts0.flatMap Cr.fv)) ∧
  sbF (N + 1) (.node f n s t g) x b = .node f n (if f = 5 then ν s else s) t (mapG φ id ν (aP N x b) g) := by
 rw [sbF, if_neg h1, if_neg h7]
 cases hp : plan (g.parts0.flatMap Cr.fv) (Cr.node f n s t g).names0 x b.fv with
 | none =>
  refine ⟨id, id, by rw [gvn_none hp]; simp, fun h => .inr ⟨rfl, fun hx => ?_⟩, by simp⟩
  have := plan_none hp hx
  rw [h] at this
  cases this
 | some rs =>
  refine ⟨fun p => sbF N (renF N rs p) x b, nw rs, gvn_some (names0_nodup ho) hp, fun h => .inl ?_, rfl⟩
  obtain ⟨_, _, h3⟩ := plan_some hp
  rw [h, rens] at h3
  subst h3
  rfl
theorem rsb_var (N : Nat) (n : Int) (s : ByteArray) (t : Tp) (g : Cr) (x : ByteArray) (b : Cr) (hc : Sm (.node 1 n s t g)) (hb : Sm b) : ACall Tryz.prog 18 [eC (.node 1 n s t g), str x, eC b] (eC (sbF (N + 1) (.node 1 n s t g) x b)) := by
 have hfw := few18_ok hc.n hc.ok
 have law1 : s = x → sbF (N + 1) (.node 1 n s t g) x b = b := fun h => by rw [sbF, if_pos rfl, if_pos h]
 have law2 : ¬ s = x → sbF (N + 1) (.node 1 n s t g) x b = .node 1 n s t g := fun h => by rw [sbF, if_pos rfl, if_neg h]
 generalize sbF (N + 1) (.node 1 n s t g) x b = X at law1 law2
 refine acall_of_wsem ttok mixed Tryz.func18 rfl (by rfl) (Nat.le_of_ble_eq_true rfl) (by kernel_rfl) ?_
 refine Wsem.seq ttok mixed ?_
 refine Wsem.cut { vs := [(1, .v (str x)), (3, .box 0 (eC (.node 1 n s t g))), (5, .box 0 (eC b)), (6, .box 0 eZ)] } ⟨⟨rfl, rfl, rfl, rfl, trivial⟩, trivial, rfl⟩ ?_
 refine Wsem.seq ttok mixed ?_
 refine .inl ⟨_, hfw, ?_⟩
 refine ⟨fun h => absurd h (by decide), fun _ => ?_⟩
 refine Wsem.cut { vs := [(1, .v (str x)), (3, .box 0 (eC (.node 1 n s t g))), (5, .box 0 (eC b)), (6, .box 0 eZ)] } ⟨⟨rfl, rfl, rfl, rfl, trivial⟩, trivial, rfl⟩ ?_
 refine Wsem.seqS (Wsem.seq ttok mixed ?_)
 refine Wsem.block ?_
 refine Wsem.seq ttok mixed ?_
 refine Wsem.cond rfl (fun _ => ?_) (fun h => absurd h (by simp [Cr.f]))
 refine Wsem.of ttok mixed ?_
 refine ⟨fun h => ?_, fun h => ?_⟩
 ·have h : s = x := of_decide_eq_true h
  rw [law1 h]
  exact rfl
 ·have h : ¬ s = x := of_decide_eq_false h
  rw [law2 h]
  exact rfl
theorem rsb_tlam (N : Nat) (n : Int) (s : ByteArray) (q : Cr) (x : ByteArray) (b : Cr) (hc : Sm (.node 7 n s .no (.kid q .nil))) (hb : Sm b) (hN : (Cr.node 7 n s .no (.kid q .nil)).sz ≤ N + 1) (ih : RsbIH N) :
  ACall Tryz.prog 18 [eC (.node 7 n s .no (.kid q .nil)), str x, eC b] (eC (sbF (N + 1) (.node 7 n s .no (.kid q .nil)) x b)) := by
 have hq : Sm q := (hc.part (p := .kid 0) rfl).1
 have hqz : q.sz ≤ N := by have e : (Cr.node 7 n s .no (.kid q .nil)).sz = 1 + (q.sz + 0) := rfl; omega
 have hqs := hq.sz
 have hqt := Nat.le_trans (wt_tn q) hq.wt
 have htq := tv_len q
 have hbt := Nat.le_trans (wt_tn b) hb.wt
 have htb := tv_len b
 have hbs := hb.sz
 have hfw := few18_ok hc.n hc.ok
 have hFr := rFree18_ok hc
 have hfl := fv_len (.node 7 n s .no (.kid q .nil))
 have hcs := hc.sz
 have hH1 := has_ok (l := (Cr.node 7 n s .no (.kid q .nil)).fv) (s := x) (by omega)
 have hTb := rTypes_ok hb.n hb.ok (by omega) (by omega)
 have hTbF := rTypesF_ok hb.n hb.ok (by omega) (by omega)
 have hTq := rTypes_ok hq.n hq.ok (by omega) (by omega)
 have hH2 := has_ok (l := b.tv) (s := s) (by omega)
 have law1 : x ∉ (Cr.node 7 n s .no (.kid q .nil)).fv → sbF (N + 1) (.node 7 n s .no (.kid q .nil)) x b = .node 7 n s .no (.kid q .nil) := fun h => sbF7_no (fun h2 => h (fv7.2 h2))
 have law2 : x ∈ (Cr.node 7 n s .no (.kid q .nil)).fv → s ∈ b.tv → sbF (N + 1) (.node 7 n s .no (.kid q .nil)) x b = .node 7 n (lett (ff (b.tv ++ q.tv))) .no (.kid (sbF N (stF N q s (.var (lett (ff (b.tv ++ q.tv))))) x b) .nil) := fun h h2 => sbF7_new (fv7.1 h) h2
 have law3 : x ∈ (Cr.node 7 n s .no (.kid q .nil)).fv → s ∉ b.tv → sbF (N + 1) (.node 7 n s .no (.kid q .nil)) x b = .node 7 n s .no (.kid (sbF N q x b) .nil) := fun h h2 => sbF7_yes (fv7.1 h) h2
 have hff := ff_len (b.tv ++ q.tv)
 rw [List.length_append] at hff
 have hfr := rFresh_ok (b.tv ++ q.tv) (by rw [List.length_append]; omega) (by omega)
 have hlow : Low 2000 (lett (ff (b.tv ++ q.tv))) := ⟨_, by omega, rfl⟩
 generalize lett (ff (b.tv ++ q.tv)) = z at hfr hlow law2
 have hq2 := hq.st N s z hlow
 have hq2z : (stF N q s (.var z)).sz = q.sz := (stF_all N q s (.var z) hq.ok).1
 have i1 := ih q x b hq hqz hb
 have i2 := rst_ok N q s (.var z) hq hqz hlow (by simp [Tp.sz])
 have i3 := ih (stF N q s (.var z)) x b hq2 (by omega) hb
 generalize sbF (N + 1) (.node 7 n s .no (.kid q .nil)) x b = X at law1 law2 law3
 generalize hV : (Cr.node 7 n s .no (.kid q .nil)).fv = V at *
 refine acall_of_wsem ttok mixed Tryz.func18 rfl (by rfl) (Nat.le_of_ble_eq_true rfl) (by kernel_rfl) ?_
 refine Wsem.seq ttok mixed ?_
 refine Wsem.cut { vs := [(1, .v (str x)), (3, .box 0 (eC (.node 7 n s .no (.kid q .nil)))), (5, .box 0 (eC b)), (6, .box 0 eZ)] } ⟨⟨rfl, rfl, rfl, rfl, trivial⟩, trivial, rfl⟩ ?_
 refine Wsem.seq ttok mixed ?_
 refine .inl ⟨_, hfw, ?_⟩
 refine ⟨fun h => absurd h (by decide), fun _ => ?_⟩
 refine Wsem.cut { vs := [(1, .v (str x)), (3, .box 0 (eC (.node 7 n s .no (.kid q .nil)))), (5, .box 0 (eC b)), (6, .box 0 eZ)] } ⟨⟨rfl, rfl, rfl, rfl, trivial⟩, trivial, rfl⟩ ?_
 refine Wsem.seqS (Wsem.seq ttok mixed ?_)
 refine Wsem.block ?_
 refine Wsem.seq ttok mixed ?_
 refine Wsem.cond rfl (fun h => absurd h (by simp [Cr.f])) (fun _ => ?_)
 refine Wsem.seq ttok mixed ?_
 refine Wsem.cond rfl (fun h => absurd h (by simp [Cr.f])) (fun _ => ?_)
 refine Wsem.seq ttok mixed ?_
 refine Wsem.cond rfl (fun _ => ?_) (fun h => absurd h (by simp [Cr.f]))
 refine Wsem.seqS (Wsem.seq ttok mixed ?_)
 refine .inl ⟨_, hFr, ?_⟩
 refine .inl ⟨_, hH1, ?_⟩
 refine Wsem.cond rfl (fun h2 => ?_) (fun h2 => ?_)
 ·have h2 : x ∉ V := fun hm => by rw [memb_iff.2 hm] at h2; cases h2
  rw [law1 h2]
  refine Wsem.of ttok mixed ?_
  exact rfl
 have h2 : x ∈ V := by
  cases hm : memb x V with
  | true => exact memb_iff.1 hm
  | false => rw [hm] at h2; cases h2
 refine Wsem.of ttok mixed ?_
 refine Wsem.seq ttok mixed ?_
 refine ⟨eC q, by decide, rfl, rfl, ?_⟩
 refine Wsem.cut { vs := [(1, .v (str x)), (3, .box 0 (eC (.node 7 n s .no (.kid q .nil)))), (5, .box 0 (eC b)), (6, .box 0 eZ), (9, .box 0 (eC q))] } ⟨⟨rfl, rfl, rfl, rfl, rfl, trivial⟩, trivial, rfl⟩ ?_
 refine Wsem.seqS (Wsem.seq ttok mixed ?_)
 refine .inl ⟨_, hTb, ?_⟩
 refine .inl ⟨_, hH2, ?_⟩
 refine ⟨by kernel_rfl, ?_⟩
 refine Wsem.cond rfl (fun h3 => ?_) (fun h3 => ?_)
 ·have h3 : s ∈ b.tv := memb_iff.1 h3
  have law2 := law2 h2 h3
  subst law2
  refine Wsem.cut { vs := [(1, .v (str x)), (3, .box 0 (eC (.node 7 n s .no (.kid q .nil)))), (5, .box 0 (eC b)), (6, .box 0 eZ), (9, .box 0 (eC q))] } ⟨⟨rfl, rfl, rfl, rfl, rfl, trivial⟩, trivial, rfl⟩ ?_
  rw [show eSs (b.tv ++ q.tv) = eSs b.tv ++ eSs q.tv by simp [eSs]] at hfr
  refine Wsem.seqS (Wsem.regionTZ openFn_spec ttok mixed [0, 1, 2, 3, 4, 5, 6] [0, 2] (by kernel_rfl) ?_)
  refine ⟨_, _, hTbF, ?_⟩
  refine .inl ⟨_, hTq, ?_⟩
  refine ⟨by show (eSs b.tv).length + (eSs q.tv).length ≤ _; simp [eSs]; omega, uniS _, uniS _, ?_⟩
  refine .inl ⟨_, hfr, ?_⟩
  refine ⟨by kernel_rfl, ?_⟩
  refine Wsem.cut { vs := [(1, .v (str x)), (3, .box 0 (eC (.node 7 n s .no (.kid q .nil)))), (5, .box 0 (eC b)), (6, .box 0 eZ), (9, .box 0 (eC q)), (10, .v (str z))] } ⟨⟨rfl, rfl, rfl, rfl, rfl, rfl, trivial⟩, trivial, rfl⟩ ?_
  refine Wsem.seq ttok mixed ?_
  refine .inl ⟨_, i2, ?_⟩
  refine Wsem.of ttok mixed ?_
  refine Wsem.seq ttok mixed ?_
  refine .inl ⟨_, i3, ?_⟩
  refine Wsem.of ttok mixed ?_
  exact rfl
 ·have h3 : s ∉ b.tv := fun hm => by rw [memb_iff.2 hm] at h3; cases h3
  have law3 := law3 h2 h3
  subst law3
  refine Wsem.of ttok mixed ?_
  refine Wsem.seq ttok mixed ?_
  refine .inl ⟨_, i1, ?_⟩
  refine Wsem.of ttok mixed ?_
  exact rfl
theorem rsb_lam (N : Nat) (n : Int) (s : ByteArray) (t : Tp) (q : Cr) (x : ByteArray) (b : Cr) (hc : Sm (.node 5 n s t (.kid q .nil))) (hb : Sm b) (hN : (Cr.node 5 n s t (.kid q .nil)).sz ≤ N + 1) (ih : RsbIH N) :
  ACall Tryz.prog 18 [eC (.node 5 n s t (.kid q .nil)), str x, eC b] (eC (sbF (N + 1) (.node 5 n s t (.kid q .nil)) x b)) := by
 have hq : Sm q := (hc.part (p := .kid 0) rfl).1
 have hqz : q.sz ≤ N := by have e : (Cr.node 5 n s t (.kid q .nil)).sz = 1 + (q.sz + 0) := rfl; omega
 have hqs := hq.sz
 have hql := fv_len q
 have hfw := few18_ok hc.n hc.ok
 have hg := given_ok N ih [s] [q] x b (by simp) (by simp) (fun p hp => by rcases List.mem_singleton.1 hp with rfl; exact ⟨hq, hqz⟩) (by simp; omega) hb
 obtain ⟨φ, ν, h1, _, h3⟩ := sbF_gv N hc.ok (by decide) (by decide) x b
 rw [h3]
 have h1 : gvn N [s] [q] x b = ([ν s], [φ q]) := h1
 rw [h1] at hg
 rw [if_pos rfl]
 show ACall _ _ _ (eC (.node 5 n (ν s) t (.kid (φ q) .nil)))
 generalize ν s = s' at *
 generalize φ q = q' at *
 refine acall_of_wsem ttok mixed Tryz.func18 rfl (by rfl) (Nat.le_of_ble_eq_true rfl) (by kernel_rfl) ?_
 refine Wsem.seq ttok mixed ?_
 refine Wsem.cut { vs := [(1, .v (str x)), (3, .box 0 (eC (.node 5 n s t (.kid q .nil)))), (5, .box 0 (eC b)), (6, .box 0 eZ)] } ⟨⟨rfl, rfl, rfl, rfl, trivial⟩, trivial, rfl⟩ ?_
 refine Wsem.seq ttok mixed ?_
 refine .inl ⟨_, hfw, ?_⟩
 refine ⟨fun h => absurd h (by decide), fun _ => ?_⟩
 refine Wsem.cut { vs := [(1, .v (str x)), (3, .box 0 (eC (.node 5 n s t (.kid q .nil)))), (5, .box 0 (eC b)), (6, .box 0 eZ)] } ⟨⟨rfl, rfl, rfl, rfl, trivial⟩, trivial, rfl⟩ ?_
 refine Wsem.seqS (Wsem.seq ttok mixed ?_)
 refine Wsem.block ?_
 refine Wsem.seq ttok mixed ?_
 refine Wsem.cond rfl (fun h => absurd h (by simp [Cr.f])) (fun _ => ?_)
 refine Wsem.seq ttok mixed ?_
 refine Wsem.cond rfl (fun _ => ?_) (fun h => absurd h (by simp [Cr.f]))
 refine Wsem.seq ttok mixed ?_
 refine .inl ⟨_, hg, ?_⟩
 refine Wsem.of ttok mixed ?_
 refine ⟨_, by decide, rfl, rfl, ?_⟩
 exact rfl
end Go.Proofs.YtgonkhaebmfgiaaGreatDoor
