/- Evidence of numbers, and of which a number is turned. -/
import Derived.Test.YtkhnjmbgkakngaaDoorP
set_option linter.unusedSimpArgs false
set_option linter.unusedVariables false
namespace Go.Proofs.YtkhnjmbgkakngaaDoor
open Go Fp
set_option maxRecDepth 10000
set_option maxHeartbeats 8000000
set_option linter.unusedVariables false
set_option linter.unusedSimpArgs false

theorem type_ok {l : List Int} (hl : l.length < 9223372036854775808) (hr : ∀ x ∈ l, InR x) : ∃ t, Sml 4 t ∧ ACall Tryd.prog n_fugueref12_Type [.sl (eIs l)] (eTy t) := by
  have hI := ints_ok (l := l) (n := 12) hl (by decide)
  obtain ⟨t, j, h1, h2⟩ := typ_ok 4 0 rfl (l.take 12) (by rw [List.length_take]; omega) (fun x hx => hr x (List.mem_of_mem_take hx))
  refine ⟨t, h1, ?_⟩
  refine acall_of_wcx ttok mixed Tryd.func15 rfl (by rfl) (Nat.le_of_ble_eq_true rfl) (by kernel_rfl) ?_
  refine .inl ⟨_, hI, ?_⟩
  refine .inl ⟨_, h2, ?_⟩
  exact rfl

/-- Evidence that has few parts. -/
def FwE : Nat → Ev → Prop
  | 0, _ => False
  | n + 1, .mk _ _ ks => ks.length < 100000 ∧ ∀ x ∈ ks, FwE n x
theorem FwE.dp : ∀ {n : Nat} {v : Ev}, FwE n v → Dp n v
  | 0, _, h => h
  | n + 1, .mk _ _ ks, h => fun x hx => (h.2 x hx).dp
theorem FwE.mono : ∀ {n : Nat} {v : Ev}, FwE n v → ∀ k, n ≤ k → FwE k v
  | 0, v, h, _, _ => h.elim
  | n + 1, .mk f i ks, h, 0, hk => by omega
  | n + 1, .mk f i ks, h, k + 1, hk => ⟨h.1, fun x hx => (h.2 x hx).mono k (by omega)⟩
theorem EvOk.fw {v : Ev} (h : EvOk v) : ∃ n, FwE n v := by
  induction h with
  | @mk f n ks hn hl hj hk ih =>
    have go : ∀ l : List Ev, (∀ k ∈ l, ∃ n, FwE n k) → ∃ n, ∀ k ∈ l, FwE n k := by
      intro l
      induction l with
      | nil => exact fun _ => ⟨0, fun k hk => by simp at hk⟩
      | cons a l ihl =>
        intro h
        obtain ⟨N, hN⟩ := h a List.mem_cons_self
        obtain ⟨M, hM⟩ := ihl fun k hk => h k (List.mem_cons_of_mem _ hk)
        refine ⟨max N M, fun x hx => ?_⟩
        rcases List.mem_cons.1 hx with rfl | hx
        · exact hN.mono _ (Nat.le_max_left _ _)
        · exact (hM x hx).mono _ (Nat.le_max_right _ _)
    obtain ⟨N, hN⟩ := go ks ih
    exact ⟨N + 1, hl, hN⟩
theorem insBs_drop {ks : List Ev} {j : Nat} (h : j < ks.length) : insBs (ks.drop j) = (insB ks[j] && insBs (ks.drop (j + 1))) := by
  rw [List.drop_eq_getElem_cons h, insBs]
theorem insts_ok : ∀ (n : Nat) (v : Ev), FwE n v → ACall Tryd.prog n_fuguelaw12_insts [eV v] (.sb (insB v))
  | 0, v, h => h.elim
  | n + 1, .mk f k ks, h => by
    have ih := fun v hv => insts_ok n v (h.2 v hv)
    generalize hR : insB (.mk f k ks) = R
    rw [insB] at hR
    have hl := h.1
    refine acall_of_wcx ttok mixed Tryd.func20 rfl (by rfl) (Nat.le_of_ble_eq_true rfl) (by kernel_rfl) ?_
    refine ⟨{j : Nat // j ≤ ks.length ∧ R = (insBs (ks.drop j) && decide (f = 3))}, fun j => { vs := [(1, .box 0 (eV (.mk f k ks))), (3, sv (j.1 : Nat))] },
      fun j => ks.length - j.1, ⟨0, Nat.zero_le _, hR.symm⟩, ⟨⟨rfl, rfl, trivial⟩, trivial, rfl⟩, ?_⟩
    rintro ⟨j, hj, hinv⟩
    refine ⟨fun h => ?_, fun h => ?_⟩
    · have h : j < ks.length := by have h : (j : Int) < ((eEvs ks).length : Nat) := of_decide_eq_true h; rw [eEvs_len] at h; omega
      rw [insBs_drop h] at hinv
      refine ⟨_, by omega, getEv h, rfl, ?_⟩
      refine .inl ⟨_, ih _ (List.getElem_mem h), ?_⟩
      cases hb : insB ks[j] with
      | false =>
        rw [hb] at hinv
        simp only [Bool.false_and] at hinv
        subst hinv
        refine ⟨fun hbs => ?_, fun hbs => ?_⟩ <;> first | (exfalso; revert hbs; (simp); done) | skip
        exact rfl
      | true =>
        rw [hb] at hinv
        simp only [Bool.true_and] at hinv
        refine ⟨fun hbs => ?_, fun hbs => ?_⟩ <;> first | (exfalso; revert hbs; (simp); done) | skip
        exact ⟨⟨j + 1, h, hinv⟩, (show ks.length - (j + 1) < ks.length - j by omega), ⟨rfl, svc (wrap_succ (k := j) (by omega)), trivial⟩, trivial, rfl⟩
    · have h : j = ks.length := by have h : ¬ (j : Int) < ((eEvs ks).length : Nat) := of_decide_eq_false h; rw [eEvs_len] at h; omega
      subst h
      rw [List.drop_length, insBs, Bool.true_and] at hinv
      subst hinv
      exact rfl

/-! ### turned -/
abbrev wI (x : Int) : Int := IntKind.i64.wrap x
def foldT (F : Ev → Int → Ev × Int) : List Ev → Int → List Ev × Int
  | [], a => ([], a)
  | v :: ks, a => ((F v a).1 :: (foldT F ks (F v a).2).1, (foldT F ks (F v a).2).2)
theorem foldT_len (F : Ev → Int → Ev × Int) : ∀ (ks : List Ev) (a : Int), (foldT F ks a).1.length = ks.length
  | [], a => rfl
  | v :: ks, a => by rw [foldT]; simp [foldT_len F ks]
theorem foldT_mem (F : Ev → Int → Ev × Int) {P : Ev → Prop} : ∀ (ks : List Ev) (a : Int), (∀ v ∈ ks, ∀ a, P (F v a).1) → ∀ u ∈ (foldT F ks a).1, P u
  | [], a, _, u, hu => by simp [foldT] at hu
  | v :: ks, a, h, u, hu => by
    rw [foldT] at hu
    rcases List.mem_cons.1 hu with rfl | hu
    · exact h v List.mem_cons_self a
    · exact foldT_mem F ks _ (fun v hv => h v (List.mem_cons_of_mem _ hv)) u hu
def trnE (b : Int) : Nat → Ev → Int → Ev × Int
  | 0, v, a => (v, a)
  | n + 1, .mk f k ks, a => (.mk f (if a = 0 then wI (k + b) else k) (foldT (trnE b n) ks (wI (a - 1))).1, (foldT (trnE b n) ks (wI (a - 1))).2)
theorem trnE_fw (b : Int) : ∀ (n : Nat) (v : Ev), FwE n v → ∀ a, FwE n (trnE b n v a).1
  | 0, v, h, a => h.elim
  | n + 1, .mk f k ks, h, a => by
    rw [trnE]
    exact ⟨by rw [foldT_len]; exact h.1, foldT_mem _ _ _ fun v hv a => trnE_fw b n v (h.2 v hv) a⟩
theorem foldT_drop (F : Ev → Int → Ev × Int) {ks : List Ev} {j : Nat} (h : j < ks.length) (a : Int) : foldT F (ks.drop j) a = ((F ks[j] a).1 :: (foldT F (ks.drop (j + 1)) (F ks[j] a).2).1, (foldT F (ks.drop (j + 1)) (F ks[j] a).2).2) := by
  rw [List.drop_eq_getElem_cons h, foldT]
theorem turned_ok (b : Int) : ∀ (n : Nat) (v : Ev) (a : Int), FwE n v → ACall Tryd.prog n_fuguelaw12_turned [eV v, .lit (.int .i64 a), .lit (.int .i64 b)] (.tup [eV (trnE b n v a).1, .lit (.int .i64 (trnE b n v a).2)])
  | 0, v, a, h => h.elim
  | n + 1, .mk f k ks, a, h => by
    have ih := fun v hv a => turned_ok b n v a (h.2 v hv)
    have hl := h.1
    obtain ⟨R, hR'⟩ : ∃ R, R = trnE b (n + 1) (.mk f k ks) a := ⟨_, rfl⟩
    rw [← hR']
    rw [trnE] at hR'
    have loop : ∀ k', R = (.mk f k' (foldT (trnE b n) ks (wI (a - 1))).1, (foldT (trnE b n) ks (wI (a - 1))).2) → Wsem Tryd.prog (sndC (sndC (bodyC Tryd.f21))) (mkC { vs := [(1, .v (.lit (.int .i64 a))), (2, .v (.lit (.int .i64 b))), (3, .box 0 (eV (.mk f k' ks))), (6, .box 0 (eV zEv))] })
        (fun c => RetP tt Tryd.f21.results.toList (.tup [eV R.1, .lit (.int .i64 R.2)]) (den c)) (fun _ _ => False) (fun c => RetP tt Tryd.f21.results.toList (.tup [eV R.1, .lit (.int .i64 R.2)]) (den c)) := fun k' hR => by
      refine Wsem.of ttok mixed ?_
      refine ⟨{p : Nat × List Ev × Int // p.1 ≤ ks.length ∧ p.2.1.length = p.1 ∧ R = (.mk f k' (p.2.1 ++ (foldT (trnE b n) (ks.drop p.1) p.2.2).1), (foldT (trnE b n) (ks.drop p.1) p.2.2).2)}, fun p => { vs := [(1, .v (.lit (.int .i64 p.1.2.2))), (2, .v (.lit (.int .i64 b))), (3, .box 0 (eV (.mk f k' ks))), (6, .box 0 (eV zEv)), (8, .v (.sl (eEvs p.1.2.1))), (9, sv (p.1.1 : Nat))], ow := [(8, 0, 4)] },
        fun p => ks.length - p.1.1, ⟨(0, [], wI (a - 1)), Nat.zero_le _, rfl, hR⟩, ⟨⟨rfl, rfl, rfl, rfl, rfl, rfl, trivial⟩, ⟨trivial, trivial⟩, rfl⟩, ?_⟩
      rintro ⟨⟨j, us, a'⟩, hj, hul, hinv⟩
      simp only at hj hul hinv
      refine ⟨fun h => ?_, fun h => ?_⟩
      · have h : j < ks.length := by have h : (j : Int) < ((eEvs ks).length : Nat) := of_decide_eq_true h; rw [eEvs_len] at h; omega
        rw [foldT_drop _ h] at hinv
        have hi := ih _ (List.getElem_mem h) a'
        revert hi hinv
        generalize trnE b n ks[j] a' = q
        obtain ⟨u, a''⟩ := q
        intro hinv hi
        simp only at hinv
        refine ⟨_, by omega, getEv h, rfl, ?_⟩
        refine .inl ⟨_, hi, ?_⟩
        refine ⟨by have := eEvs_len us; show (eEvs us).length + 1 ≤ 4294967296; omega, uniEv us, uni1 rfl, ?_⟩
        refine ⟨⟨(j + 1, us ++ [u], a''), h, by simp [hul], by rw [hinv]; simp⟩, (show ks.length - (j + 1) < ks.length - j by omega), ⟨rfl, rfl, rfl, rfl, ?_, svc (wrap_succ (k := j) (by omega)), trivial⟩, ⟨rfl, trivial⟩, rfl⟩
        show SV.v (.sl (eEvs us ++ [eV u])) = _
        rw [eEvs_snocV]
      · have h : j = ks.length := by have h : ¬ (j : Int) < ((eEvs ks).length : Nat) := of_decide_eq_false h; rw [eEvs_len] at h; omega
        subst h
        rw [List.drop_length, foldT, List.append_nil] at hinv
        subst hinv
        exact rfl
    refine acall_of_wsem ttok mixed Tryd.func21 rfl (by rfl) (Nat.le_of_ble_eq_true rfl) (by kernel_rfl) ?_
    refine Wsem.seq ttok mixed ?_
    refine Wsem.seq ttok mixed ?_
    by_cases ha : a = 0
    · refine ⟨fun hbs => ?_, fun hbs => ?_⟩ <;> first | (exfalso; revert hbs; (simp [ha]); done) | skip
      rw [if_pos ha] at hR'
      refine Wsem.cut _ ?_ (loop _ hR')
      exact ⟨⟨rfl, rfl, rfl, rfl, trivial⟩, trivial, rfl⟩
    · refine ⟨fun hbs => ?_, fun hbs => ?_⟩ <;> first | (exfalso; revert hbs; (simp [ha]); done) | skip
      rw [if_neg ha] at hR'
      refine Wsem.cut _ ?_ (loop _ hR')
      exact ⟨⟨rfl, rfl, rfl, rfl, trivial⟩, trivial, rfl⟩
end Go.Proofs.YtkhnjmbgkakngaaDoor

namespace Go.Proofs.YtkhnjmbgkakngaaDoor
open Go Fp
set_option maxRecDepth 10000
set_option maxHeartbeats 8000000
set_option linter.unusedVariables false
set_option linter.unusedSimpArgs false

def mdF (d r : Nat) : Int := if (r / 28 % 3 = 0 ∧ 1 < d) ∨ 3 < d then 1 else ((1 + r % 4 : Nat) : Int)
def mdN (r : Nat) : Int := ((r / 4 % 7 : Nat) : Int) - 1
def mdK (f : Int) (r : Nat) : Nat := if f = 2 ∧ r / 84 % 5 ≠ 0 then 1 else r / 84 % 3
def kidsF (F : List Int → Ev × List Int) : Nat → List Int → List Ev × List Int
  | 0, l => ([], l)
  | k + 1, l => ((F l).1 :: (kidsF F k (F l).2).1, (kidsF F k (F l).2).2)
def mdR (F : List Int → Ev × List Int) (d r : Nat) (l : List Int) : Ev × List Int :=
  if mdF d r = 1 ∧ r / 84 % 5 ≠ 0 then (.mk (mdF d r) (mdN r) [], l) else
  if d < 4 then (.mk (mdF d r) (mdN r) (kidsF F (mdK (mdF d r) r) l).1, (kidsF F (mdK (mdF d r) r) l).2) else (.mk (mdF d r) (mdN r) [], l)
theorem mdK_le (f : Int) (r : Nat) : mdK f r ≤ 2 := by unfold mdK; split <;> omega
def okL (l : List Int) : Prop := l.length < 9223372036854775808 ∧ ∀ x ∈ l, InR x
theorem okL.drop {l : List Int} (h : okL l) (j : Nat) : okL (l.drop j) := ⟨by rw [List.length_drop]; have := h.1; omega, fun x hx => h.2 x (List.mem_of_mem_drop hx)⟩
structure MdP (n d : Nat) (l : List Int) (q : Ev × List Int) : Prop where
  fw : FwE n q.1
  rest : ∃ j, q.2 = l.drop j
  ok : ACall Tryd.prog n_fuguelaw12_made [.sl (eIs l), .lit (.int .i64 (d : Nat))] (.tup [eV q.1, .sl (eIs q.2)])
theorem kidsF_fw {F : List Int → Ev × List Int} {n d : Nat} (hF : ∀ l, okL l → MdP n d l (F l)) : ∀ (k : Nat) (l : List Int), okL l → (kidsF F k l).1.length = k ∧ (∀ v ∈ (kidsF F k l).1, FwE n v) ∧ ∃ j, (kidsF F k l).2 = l.drop j
  | 0, l, _ => ⟨rfl, fun v hv => by simp [kidsF] at hv, 0, rfl⟩
  | k + 1, l, h => by
    have h1 := hF l h
    obtain ⟨j, hj⟩ := h1.rest
    obtain ⟨h2, h3, i, h4⟩ := kidsF_fw hF k (F l).2 (hj ▸ h.drop j)
    rw [kidsF]
    refine ⟨by simp [h2], fun v hv => ?_, j + i, by rw [h4, hj, List.drop_drop]⟩
    rcases List.mem_cons.1 hv with rfl | hv
    · exact h1.fw
    · exact h3 v hv
theorem tm {a b : Nat} : Int.tmod (a : Int) (b : Int) = ((a % b : Nat) : Int) := by rw [Int.tmod_eq_emod_of_nonneg (by omega)]; simp
theorem wq {r b : Nat} (hr : r < 1000) : IntKind.i64.wrap (Int.tdiv (r : Int) (b : Int)) = ((r / b : Nat) : Int) := by
  rw [show Int.tdiv (r : Int) (b : Int) = ((r / b : Nat) : Int) by simp]; exact wrap_nat (by have := Nat.div_le_self r b; omega)
section
variable (F : List Int → Ev × List Int) (n d : Nat) (hd : d ≤ 4) (hF : d < 4 → ∀ l, okL l → MdP n (d + 1) l (F l))
include hd hF
theorem made_tail {r : Nat} (hr : r < 1000) {l : List Int} (hl : okL l) (R : Ev × List Int) (hR : R = mdR F d r l) :
    Wsem Tryd.prog (sndC (sndC (sndC (bodyC Tryd.f18)))) (mkC { vs := [(0, .v (.sl (eIs l))), (1, sv (d : Nat)), (4, .box 0 (eV zEv)), (6, sv (r : Nat))] })
      (fun c => RetP tt Tryd.f18.results.toList (.tup [eV R.1, .sl (eIs R.2)]) (den c)) (fun _ _ => False) (fun c => RetP tt Tryd.f18.results.toList (.tup [eV R.1, .sl (eIs R.2)]) (den c)) := by
  have q28 : Int.tmod (IntKind.i64.wrap (Int.tdiv (r : Int) 28)) 3 = ((r / 28 % 3 : Nat) : Int) := by rw [show (28 : Int) = ((28 : Nat) : Int) from rfl, wq hr]; exact tm
  have q84 : Int.tmod (IntKind.i64.wrap (Int.tdiv (r : Int) 84)) 5 = ((r / 84 % 5 : Nat) : Int) := by rw [show (84 : Int) = ((84 : Nat) : Int) from rfl, wq hr]; exact tm
  have q84' : Int.tmod (IntKind.i64.wrap (Int.tdiv (r : Int) 84)) 3 = ((r / 84 % 3 : Nat) : Int) := by rw [show (84 : Int) = ((84 : Nat) : Int) from rfl, wq hr]; exact tm
  have qN : IntKind.i64.wrap (Int.tmod (IntKind.i64.wrap (Int.tdiv (r : Int) 4)) 7 - 1) = mdN r := by
    rw [show (4 : Int) = ((4 : Nat) : Int) from rfl, wq hr, show (7 : Int) = ((7 : Nat) : Int) from rfl, tm]
    exact wrap_in (by unfold InR; omega)
  have qF : IntKind.i64.wrap (1 + Int.tmod (r : Int) 4) = ((1 + r % 4 : Nat) : Int) := by
    rw [show (4 : Int) = ((4 : Nat) : Int) from rfl, tm]
    exact wrap_in (by unfold InR; omega)
  -- the kids
  have loop : ∀ (f : Int) (K : Nat), K ≤ 2 → R = (if d < 4 then (.mk f (mdN r) (kidsF F K l).1, (kidsF F K l).2) else (.mk f (mdN r) [], l)) → Wsem Tryd.prog (sndC (sndC (sndC (sndC (sndC (sndC (sndC (sndC (bodyC Tryd.f18))))))))) (mkC { vs := [(0, .v (.sl (eIs l))), (1, sv (d : Nat)), (4, .box 0 (eV zEv)), (7, .box 0 (eV (.mk f (mdN r) []))), (8, sv (K : Nat))], ow := [(7, 2, 4)] })
      (fun c => RetP tt Tryd.f18.results.toList (.tup [eV R.1, .sl (eIs R.2)]) (den c)) (fun _ _ => False) (fun c => RetP tt Tryd.f18.results.toList (.tup [eV R.1, .sl (eIs R.2)]) (den c)) := fun f K hK hR => by
    refine Wsem.of ttok mixed ?_
    refine ⟨{p : Nat × List Ev × List Int // p.1 ≤ K ∧ p.2.1.length = p.1 ∧ okL p.2.2 ∧ R = (if d < 4 then (.mk f (mdN r) (p.2.1 ++ (kidsF F (K - p.1) p.2.2).1), (kidsF F (K - p.1) p.2.2).2) else (.mk f (mdN r) p.2.1, p.2.2))}, fun p => { vs := [(0, .v (.sl (eIs p.1.2.2))), (1, sv (d : Nat)), (4, .box 0 (eV zEv)), (7, .box 0 (eV (.mk f (mdN r) p.1.2.1))), (8, sv (K : Nat)), (9, sv (p.1.1 : Nat))], ow := [(7, 2, 4)] },
      fun p => K - p.1.1, ⟨(0, [], l), Nat.zero_le _, rfl, hl, by rw [hR]; rfl⟩, ⟨⟨rfl, rfl, rfl, rfl, rfl, rfl, trivial⟩, ⟨rfl, trivial⟩, rfl⟩, ?_⟩
    rintro ⟨⟨i, us, l'⟩, hi, hul, hl', hinv⟩
    simp only at hi hul hl' hinv
    by_cases hd4 : d < 4
    · rw [if_pos hd4] at hinv
      by_cases hk : i < K
      · refine ⟨fun hbs => ?_, fun hbs => ?_⟩ <;> first | (exfalso; revert hbs; (simp; omega); done) | skip
        refine ⟨fun hbs => ?_, fun hbs => ?_⟩ <;> first | (exfalso; revert hbs; (simp; omega); done) | skip
        obtain ⟨_, ⟨j, hj⟩, hC⟩ := hF hd4 l' hl'
        rw [show K - i = (K - (i + 1)) + 1 by omega, kidsF] at hinv
        have hl2 : okL (F l').2 := hj ▸ hl'.drop j
        revert hC hinv hl2
        generalize F l' = q
        obtain ⟨u, l2⟩ := q
        intro hinv hC hl2
        simp only at hinv hl2
        have e : IntKind.i64.wrap ((d : Int) + 1) = ((d + 1 : Nat) : Int) := wrap_succ (by omega)
        simp only at hC
        have hC : ACall Tryd.prog n_fuguelaw12_made [.sl (eIs l'), .lit (.int .i64 (IntKind.i64.wrap ((d : Int) + 1)))] (.tup [eV u, .sl (eIs l2)]) := by rw [e]; exact hC
        refine .inl ⟨_, hC, ?_⟩
        refine ⟨by have := eEvs_len us; show (eEvs us).length + 1 ≤ 4294967296; omega, uniEv us, uni1 rfl, ?_⟩
        refine ⟨⟨(i + 1, us ++ [u], l2), hk, by simp [hul], hl2, by rw [hinv, if_pos hd4]; simp⟩, (show K - (i + 1) < K - i by omega), ⟨rfl, rfl, rfl, ?_, rfl, svc (wrap_succ (k := i) (by omega)), trivial⟩, ⟨rfl, trivial⟩, rfl⟩
        show SV.box 0 (.agg [_, _, .sl (eEvs us ++ [eV u])]) = _
        rw [eEvs_snocV]; rfl
      · refine ⟨fun hbs => ?_, fun hbs => ?_⟩ <;> first | (exfalso; revert hbs; (simp; omega); done) | skip
        have e : K - i = 0 := by omega
        rw [e, kidsF, List.append_nil] at hinv
        subst hinv
        exact rfl
    · rw [if_neg hd4] at hinv
      subst hinv
      refine ⟨fun h => ?_, fun h => ?_⟩
      · refine ⟨fun hbs => ?_, fun hbs => ?_⟩ <;> first | (exfalso; revert hbs; (simp; omega); done) | skip
        exact rfl
      · skip
        exact rfl
  -- behind the form
  have tail : ∀ f : Int, R = (if f = 1 ∧ r / 84 % 5 ≠ 0 then (.mk f (mdN r) [], l) else if d < 4 then (.mk f (mdN r) (kidsF F (mdK f r) l).1, (kidsF F (mdK f r) l).2) else (.mk f (mdN r) [], l)) → Wsem Tryd.prog (sndC (sndC (sndC (sndC (sndC (bodyC Tryd.f18)))))) (mkC { vs := [(0, .v (.sl (eIs l))), (1, sv (d : Nat)), (4, .box 0 (eV zEv)), (6, sv (r : Nat)), (7, .box 0 (eV (.mk f (mdN r) [])))], ow := [(7, 2, 4)] })
      (fun c => RetP tt Tryd.f18.results.toList (.tup [eV R.1, .sl (eIs R.2)]) (den c)) (fun _ _ => False) (fun c => RetP tt Tryd.f18.results.toList (.tup [eV R.1, .sl (eIs R.2)]) (den c)) := fun f hR => by
    have tail2 : ¬ (f = 1 ∧ r / 84 % 5 ≠ 0) → Wsem Tryd.prog (sndC (sndC (sndC (sndC (sndC (sndC (bodyC Tryd.f18))))))) (mkC { vs := [(0, .v (.sl (eIs l))), (1, sv (d : Nat)), (4, .box 0 (eV zEv)), (6, sv (r : Nat)), (7, .box 0 (eV (.mk f (mdN r) [])))], ow := [(7, 2, 4)] })
      (fun c => RetP tt Tryd.f18.results.toList (.tup [eV R.1, .sl (eIs R.2)]) (den c)) (fun _ _ => False) (fun c => RetP tt Tryd.f18.results.toList (.tup [eV R.1, .sl (eIs R.2)]) (den c)) := fun hn => by
      rw [if_neg hn] at hR
      have lp := loop f (mdK f r) (mdK_le f r) hR
      refine Wsem.seq ttok mixed ?_
      refine ⟨by decide, by decide, ?_⟩
      refine Wsem.seq ttok mixed ?_
      unfold mdK at lp
      by_cases h2 : f = 2
      · refine ⟨fun hbs => ?_, fun hbs => ?_⟩ <;> first | (exfalso; revert hbs; (simp [fE, h2]); done) | skip
        refine ⟨by decide, by decide, ?_⟩
        by_cases h5 : r / 84 % 5 = 0
        · refine ⟨fun hbs => ?_, fun hbs => ?_⟩ <;> first | (exfalso; revert hbs; (rw [q84]; simp [h5]); done) | skip
          rw [if_neg (fun h => h.2 h5)] at lp
          refine Wsem.cut _ ?_ lp
          exact ⟨⟨rfl, rfl, rfl, rfl, svc q84', trivial⟩, ⟨rfl, trivial⟩, rfl⟩
        · refine ⟨fun hbs => ?_, fun hbs => ?_⟩ <;> first | (exfalso; revert hbs; (rw [q84]; simp; omega); done) | skip
          rw [if_pos ⟨h2, h5⟩] at lp
          refine Wsem.cut _ ?_ lp
          exact ⟨⟨rfl, rfl, rfl, rfl, rfl, trivial⟩, ⟨rfl, trivial⟩, rfl⟩
      · refine ⟨fun hbs => ?_, fun hbs => ?_⟩ <;> first | (exfalso; revert hbs; (simp [fE, h2]); done) | skip
        rw [if_neg (fun h => h2 h.1)] at lp
        refine Wsem.cut _ ?_ lp
        exact ⟨⟨rfl, rfl, rfl, rfl, svc q84', trivial⟩, ⟨rfl, trivial⟩, rfl⟩
    refine Wsem.seq ttok mixed ?_
    by_cases h1 : f = 1
    · refine ⟨fun hbs => ?_, fun hbs => ?_⟩ <;> first | (exfalso; revert hbs; (simp [fE, h1]); done) | skip
      refine ⟨by decide, by decide, ?_⟩
      by_cases h5 : r / 84 % 5 = 0
      · refine ⟨fun hbs => ?_, fun hbs => ?_⟩ <;> first | (exfalso; revert hbs; (rw [q84]; simp [h5]); done) | skip
        refine Wsem.cut _ ?_ (tail2 fun h => h.2 h5)
        exact ⟨⟨rfl, rfl, rfl, rfl, rfl, trivial⟩, ⟨rfl, trivial⟩, rfl⟩
      · refine ⟨fun hbs => ?_, fun hbs => ?_⟩ <;> first | (exfalso; revert hbs; (rw [q84]; simp; omega); done) | skip
        rw [if_pos ⟨h1, h5⟩] at hR
        subst hR
        exact rfl
    · refine ⟨fun hbs => ?_, fun hbs => ?_⟩ <;> first | (exfalso; revert hbs; (simp [fE, h1]); done) | skip
      refine Wsem.cut _ ?_ (tail2 fun h => h1 h.1)
      exact ⟨⟨rfl, rfl, rfl, rfl, rfl, trivial⟩, ⟨rfl, trivial⟩, rfl⟩
  have tl := tail (mdF d r) hR
  unfold mdF at tl
  refine Wsem.seq ttok mixed ?_
  refine ⟨by decide, by decide, by decide, ?_⟩
  refine Wsem.seq ttok mixed ?_
  refine ⟨by decide, by decide, ?_⟩
  by_cases h1 : r / 28 % 3 = 0
  · refine ⟨fun hbs => ?_, fun hbs => ?_⟩ <;> first | (exfalso; revert hbs; (rw [q28]; simp [h1]); done) | skip
    by_cases h2 : 1 < d
    · refine ⟨fun hbs => ?_, fun hbs => ?_⟩ <;> first | (exfalso; revert hbs; (simp; omega); done) | skip
      rw [if_pos (.inl ⟨h1, h2⟩)] at tl
      refine Wsem.cut _ ?_ tl
      refine ⟨⟨rfl, rfl, rfl, rfl, ?_, trivial⟩, ⟨trivial, trivial⟩, rfl⟩
      rw [← qN]; rfl
    · refine ⟨fun hbs => ?_, fun hbs => ?_⟩ <;> first | (exfalso; revert hbs; (simp; omega); done) | skip
      refine ⟨fun hbs => ?_, fun hbs => ?_⟩ <;> first | (exfalso; revert hbs; (simp; omega); done) | skip
      rw [if_neg (by omega), ← qF, ← qN] at tl
      refine Wsem.cut _ ?_ tl
      exact ⟨⟨rfl, rfl, rfl, rfl, rfl, trivial⟩, ⟨trivial, trivial⟩, rfl⟩
  · refine ⟨fun hbs => ?_, fun hbs => ?_⟩ <;> first | (exfalso; revert hbs; (rw [q28]; simp; omega); done) | skip
    by_cases h3 : 3 < d
    · refine ⟨fun hbs => ?_, fun hbs => ?_⟩ <;> first | (exfalso; revert hbs; (simp; omega); done) | skip
      rw [if_pos (.inr h3), ← qN] at tl
      refine Wsem.cut _ ?_ tl
      exact ⟨⟨rfl, rfl, rfl, rfl, rfl, trivial⟩, ⟨trivial, trivial⟩, rfl⟩
    · refine ⟨fun hbs => ?_, fun hbs => ?_⟩ <;> first | (exfalso; revert hbs; (simp; omega); done) | skip
      rw [if_neg (by omega), ← qF, ← qN] at tl
      refine Wsem.cut _ ?_ tl
      exact ⟨⟨rfl, rfl, rfl, rfl, rfl, trivial⟩, ⟨trivial, trivial⟩, rfl⟩
theorem made_step {l : List Int} (hl : okL l) : ∃ r, r < 1000 ∧ ACall Tryd.prog n_fuguelaw12_made [.sl (eIs l), .lit (.int .i64 (d : Nat))] (.tup [eV (mdR F d r (l.drop 1)).1, .sl (eIs (mdR F d r (l.drop 1)).2)]) := by
  cases l with
  | nil =>
    refine ⟨0, by decide, ?_⟩
    have tl := made_tail F n d hd hF (r := 0) (by decide) (l := []) ⟨by simp, fun x hx => by simp at hx⟩ _ rfl
    show ACall _ _ _ (.tup [eV (mdR F d 0 []).1, .sl (eIs (mdR F d 0 []).2)])
    revert tl
    generalize mdR F d 0 [] = R
    intro tl
    refine acall_of_wsem ttok mixed Tryd.func18 rfl (by rfl) (Nat.le_of_ble_eq_true rfl) (by kernel_rfl) ?_
    refine Wsem.seq ttok mixed ?_
    refine Wsem.seq ttok mixed ?_
    refine Wsem.seq ttok mixed ?_
    refine ⟨fun hbs => ?_, fun hbs => ?_⟩ <;> first | (exfalso; revert hbs; (simp [eIs]); done) | skip
    refine Wsem.cut _ ?_ tl
    exact ⟨⟨rfl, rfl, rfl, rfl, trivial⟩, trivial, rfl⟩
  | cons x l =>
    obtain ⟨r, hr, hA⟩ := around_ok (n := x) (m := 1000) (hl.2 x List.mem_cons_self) (by decide) (by decide)
    have hr : r < 1000 := by omega
    refine ⟨r, hr, ?_⟩
    have tl := made_tail F n d hd hF hr (l := l) (hl.drop 1) _ rfl
    show ACall _ _ _ (.tup [eV (mdR F d r l).1, .sl (eIs (mdR F d r l).2)])
    revert tl
    generalize mdR F d r l = R
    intro tl
    refine acall_of_wsem ttok mixed Tryd.func18 rfl (by rfl) (Nat.le_of_ble_eq_true rfl) (by kernel_rfl) ?_
    refine Wsem.seq ttok mixed ?_
    refine Wsem.seq ttok mixed ?_
    refine Wsem.seq ttok mixed ?_
    refine ⟨fun hbs => ?_, fun hbs => ?_⟩ <;> first | (exfalso; revert hbs; (simp [eIs] <;> omega); done) | skip
    refine ⟨_, by decide, rfl, rfl, ?_⟩
    refine .inl ⟨_, hA, ?_⟩
    have hlen := hl.1
    simp only [List.length_cons] at hlen
    refine ⟨by decide, by show (1 : Int) ≤ ((eIs (x :: l)).length : Nat); simp [eIs] <;> omega, by omega, .inr (uniI _), ?_⟩
    refine Wsem.cut _ ?_ tl
    refine ⟨⟨?_, rfl, rfl, rfl, trivial⟩, trivial, rfl⟩
    show SV.v (.sl (((eIs (x :: l)).take ((eIs (x :: l)).length : Int).toNat).drop (1 : Int).toNat)) = SV.v (.sl (eIs l))
    rw [show ((eIs (x :: l)).length : Int).toNat = (eIs (x :: l)).length from rfl, List.take_length]
    simp [eIs]
end
instance : Nonempty (Ev × List Int) := ⟨(zEv, [])⟩
theorem mdR_fw {F : List Int → Ev × List Int} {n d : Nat} (hF : d < 4 → ∀ l, okL l → MdP n (d + 1) l (F l)) (r : Nat) {l : List Int} (hl : okL l) : FwE (n + 1) (mdR F d r l).1 ∧ ∃ j, (mdR F d r l).2 = l.drop j := by
  unfold mdR
  split
  · exact ⟨⟨by decide, fun x hx => by simp at hx⟩, 0, rfl⟩
  · split
    · rename_i hd
      obtain ⟨h1, h2, h3⟩ := kidsF_fw (hF hd) (mdK (mdF d r) r) l hl
      exact ⟨⟨by rw [h1]; have := mdK_le (mdF d r) r; omega, h2⟩, h3⟩
    · exact ⟨⟨by decide, fun x hx => by simp at hx⟩, 0, rfl⟩
theorem made_ok' : ∀ (n d : Nat), d + n = 4 → ∀ l, okL l → ∃ q, MdP (n + 1) d l q := by
  intro n
  have fin : ∀ (n d : Nat) (F : List Int → Ev × List Int), d ≤ 4 → (d < 4 → ∀ l, okL l → MdP n (d + 1) l (F l)) → ∀ l, okL l → ∃ q, MdP (n + 1) d l q := fun n d F hd hF l hl => by
    obtain ⟨r, hr, hA⟩ := made_step F n d hd hF hl
    obtain ⟨h1, j, h2⟩ := mdR_fw hF r (hl.drop 1)
    exact ⟨_, h1, ⟨1 + j, by rw [h2, List.drop_drop]⟩, hA⟩
  induction n with
  | zero => exact fun d hd l hl => fin 0 d (fun _ => (zEv, [])) (by omega) (fun h => by omega) l hl
  | succ n ih => exact fun d hd l hl => fin (n + 1) d (fun l => Classical.epsilon (MdP (n + 1) (d + 1) l)) (by omega) (fun h l hl => Classical.epsilon_spec (ih (d + 1) (by omega) l hl)) l hl
end Go.Proofs.YtkhnjmbgkakngaaDoor

namespace Go.Proofs.YtkhnjmbgkakngaaDoor
open Go Fp
set_option maxRecDepth 10000
set_option linter.unusedVariables false
set_option linter.unusedSimpArgs false

theorem sml3' {t : Tp} (h : Sml 3 t) : nA t ∧ t.sz ≤ 29 ∧ hgt t ≤ 6 := ⟨h.na, by have := h.sz; omega, by have := h.hb; omega⟩
/-- What New tells, of a good world. -/
theorem newW_ok {cs : List Cl} {is : List In} (W : GoodW cs is) : ∃ (b : Bool) (e : AV) (q : Int × Int), CallsG Tryd.prog (fnv n_classes_New) [] [eProg cs is] [] (fun r o h => r = .tup [e, eAt q] ∧ o = 0 ∧ h = []) ∧ e = if b then eEnv cs.reverse (eM (mthAll cs cs.length)) is else .lit (.pointer none) := by
  have hN := newE_calls cs is W.nd (by have := W.few; omega) (fun c hc => by have := W.sup c hc; omega) (fun c hc => by have := W.mth c hc; omega) (by have := W.ins; omega)
  by_cases h0 : (leastR (refs cs.reverse cs is)).1 = 0
  · rw [if_pos h0] at hN
    exact ⟨true, _, _, hN, rfl⟩
  · rw [if_neg h0] at hN
    exact ⟨false, _, _, hN, rfl⟩
/-- Predicates that are plain and small. -/
def PlS (l : List PR) : Prop := ∀ q ∈ l, nA q.ty ∧ q.ty.sz ≤ 29 ∧ hgt q.ty ≤ 6
theorem prd_plS {l : List Int} (hr : ∀ x ∈ l, InR x) (n : Nat) : PlS (prd n (l.take 30)) := fun q hq => sml3' (prd_sml n (l := l.take 30) (by rw [List.length_take]; omega) (fun x hx => hr x (List.mem_of_mem_take hx)) q hq)
theorem PlS.pl {l : List PR} (h : PlS l) : ∀ q ∈ l, nA q.ty ∧ q.ty.sz < 1000000 := fun q hq => ⟨(h q hq).1, by have := (h q hq).2.1; omega⟩
theorem sub_pl {ps : Env'} {B : Nat} (hB : 1 ≤ B) (hp : ∀ s a, look s ps = some a → nA a ∧ a.sz ≤ B) : ∀ (t : Tp), nA t → nA (sub t ps) ∧ (sub t ps).sz ≤ t.sz * B
  | .app a b, h => by
    obtain ⟨h1, h2⟩ := sub_pl hB hp a h.1
    obtain ⟨h3, h4⟩ := sub_pl hB hp b h.2
    rw [sub]
    refine ⟨⟨h1, h3⟩, ?_⟩
    simp only [Tp.sz, Nat.add_mul]; omega
  | .var s, _ => by
    rw [sub]
    cases hl : look s ps with
    | none => exact ⟨trivial, by simp [Tp.sz]; omega⟩
    | some a => obtain ⟨h1, h2⟩ := hp s a hl; exact ⟨h1, by simp [Tp.sz]; omega⟩
  | .no, _ => by simp only [sub]; exact ⟨trivial, by simp [Tp.sz]; omega⟩
  | .mt _, _ => by simp only [sub]; exact ⟨trivial, by simp [Tp.sz]; omega⟩
  | .con _, _ => by simp only [sub]; exact ⟨trivial, by simp [Tp.sz]; omega⟩
theorem sub_one {s : ByteArray} {a t : Tp} (ha : nA a) (hs : a.sz ≤ 61) (ht : nA t) (hz : t.sz ≤ 29) : nA (sub t [(s, a)]) ∧ (sub t [(s, a)]).sz < 1000000 := by
  obtain ⟨h1, h2⟩ := sub_pl (ps := [(s, a)]) (B := 61) (by decide) (fun r b h => by
    simp only [look] at h
    split at h
    · injection h with h; subst h; exact ⟨ha, hs⟩
    · cases h) t ht
  exact ⟨h1, by omega⟩
theorem rem3 {n : Int} (h : InR n) : InR (Int.tmod n 3) := by
  unfold InR at *
  have h1 := Int.tmod_lt_of_pos n (b := 3) (by decide)
  have h2 := Int.lt_tmod_of_pos n (b := 3) (by decide)
  omega
def errO (o : Option Ev) : Int := if o.isSome then 0 else 33
theorem evR_get (o : Option Ev) : evR o = .tup [eV (o.getD zEv), .lit (.int .i64 (errO o))] := by cases o <;> rfl
end Go.Proofs.YtkhnjmbgkakngaaDoor
