/- What the law makes besides: names, short texts. No condition but that the numbers are such. -/
import Derived.Test.YtgonkhaebmfgiaaGreatDoorN
set_option linter.unusedSimpArgs false
set_option linter.unusedVariables false
namespace Go.Proofs.YtgonkhaebmfgiaaGreatDoor
open Go Fp
set_option maxRecDepth 10000
set_option maxHeartbeats 8000000
set_option linter.unusedVariables false

theorem short_ok (s : ByteArray) (hs : s.size < 9223372036854775808) : ∃ r, ACall Tryz.prog 26 [str s, .lit (.int .i64 20)] (str r) := by
  refine ⟨if 20 < s.size then s.extract 0 20 else s, ?_⟩
  refine acall_of_wcx ttok mixed Tryz.func26 rfl (by rfl) (Nat.le_of_ble_eq_true rfl) (by kernel_rfl) ?_
  refine ⟨fun h => ?_, fun h => ?_⟩
  · have h : 20 < s.size := by have h := of_decide_eq_true h; omega
    rw [if_pos h]
    exact ⟨by decide, by decide, by show (20 : Int) ≤ _; omega, rfl⟩
  · have h : ¬ 20 < s.size := by have h := of_decide_eq_false h; omega
    rw [if_neg h]
    exact rfl
open Classical in
/-- A name by a number. -/
noncomputable def lnF (n : Int) : ByteArray := if h : InR n then (lawName18_ok h).choose else .empty
theorem lnF_ok {n : Int} (h : InR n) : ACall Tryz.prog 17 [.lit (.int .i64 n)] (str (lnF n)) := by
  unfold lnF; rw [dif_pos h]; exact (lawName18_ok h).choose_spec.2
/-- What is given: others and numbers, in turn. -/
def argC (b : Cr) (i : Nat) : Cr := if i % 2 = 1 then intC (i : Nat) else b
def argsL (b : Cr) (k : Nat) : List Cr := (List.range k).map (argC b)
noncomputable def nmsL (k : Nat) : List ByteArray := (List.range k).map fun i => lnF (i : Nat)
noncomputable def allC (a : Cr) (k i : Nat) : Cr := ((List.range i).map fun j => lnF ((k - 1 - j : Nat) : Int)).foldl (fun a s => tlamC s a) a
theorem argsL_succ (b : Cr) (k : Nat) : argsL b (k + 1) = argsL b k ++ [argC b k] := by simp [argsL, List.range_succ]
theorem nmsL_succ (k : Nat) : nmsL (k + 1) = nmsL k ++ [lnF (k : Nat)] := by simp [nmsL, List.range_succ]
theorem allC_succ (a : Cr) (k i : Nat) : allC a k (i + 1) = tlamC (lnF ((k - 1 - i : Nat) : Int)) (allC a k i) := by simp [allC, List.range_succ]
theorem allC_all (a : Cr) {k : Nat} (hk : k < 5) : (nmsL k).reverse.foldl (fun a s => tlamC s a) a = allC a k k := by
  match k, hk with
  | 0, _ | 1, _ | 2, _ | 3, _ | 4, _ => rfl
  | n + 5, h => omega
theorem rep_foldl (t : Tp) (a : Cr) (k : Nat) : (List.replicate (k + 1) t).foldl (fun a t => tappC t a) a = tappC t ((List.replicate k t).foldl (fun a t => tappC t a) a) := by
  rw [List.replicate_succ', List.foldl_append]; rfl
end Go.Proofs.YtgonkhaebmfgiaaGreatDoor

namespace Go.Proofs.YtgonkhaebmfgiaaGreatDoor
open Go Fp
set_option maxRecDepth 10000
set_option maxHeartbeats 16000000
set_option linter.unusedVariables false

theorem wt_argC {b : Cr} (hb : Sm b) (i : Nat) : Sm (argC b i) := by
  unfold argC; split
  · exact intSm _
  · exact hb
theorem tyNo : TyS .no := ⟨trivial, by decide, by decide⟩
theorem gd_app {a c : Cr} (ha : Gd a) (hc : Gd c) : Gd (appC a c) := ⟨rfl, ok_app ha.n ha.ok hc.n hc.ok, ⟨ha.few, hc.few, trivial⟩, ⟨tyNo, ha.ty, hc.ty, trivial⟩⟩
theorem gd_lam {s : ByteArray} {t : Tp} {c : Cr} (ht : TyS t) (hc : Gd c) : Gd (lamC s t c) := ⟨rfl, ok_lam hc.n hc.ok, ⟨hc.few, trivial⟩, ⟨ht, hc.ty, trivial⟩⟩
theorem gd_tapp {t : Tp} {c : Cr} (ht : TyS t) (hc : Gd c) : Gd (tappC t c) := ⟨rfl, ⟨rfl, fun h => absurd h (by decide), fun h => absurd h (by decide), rfl, fun h => absurd rfl h, fun h => absurd rfl h, List.nodup_nil, hc.n, rfl, hc.ok, trivial⟩, ⟨hc.few, trivial⟩, ⟨ht, hc.ty, trivial⟩⟩
theorem gd_tlam {s : ByteArray} {c : Cr} (hc : Gd c) : Gd (tlamC s c) := ⟨rfl, ⟨rfl, fun h => absurd h (by decide), fun h => rfl, rfl, fun h => absurd rfl h, fun h => absurd rfl h, List.nodup_nil, hc.n, rfl, hc.ok, trivial⟩, ⟨hc.few, trivial⟩, ⟨tyNo, hc.ty, trivial⟩⟩
theorem gd_con (s : ByteArray) : Gd (conC s) := ⟨rfl, ⟨rfl, fun h => absurd h (by decide), fun h => absurd h (by decide), rfl, fun h => absurd rfl h, fun h => absurd rfl h, List.nodup_nil, trivial⟩, trivial, ⟨tyNo, trivial⟩⟩
theorem gd_apps : ∀ (l : List Cr) (a : Cr), (∀ c ∈ l, Gd c ∧ c.sz ≤ 590) → Gd a → Gd (l.foldl appC a) ∧ (l.foldl appC a).sz ≤ a.sz + l.length * 591 := by
  intro l
  induction l with
  | nil => intro a _ ha; exact ⟨ha, by simp⟩
  | cons c l ih =>
    intro a hl ha
    have hc := hl c List.mem_cons_self
    obtain ⟨h1, h2⟩ := ih (appC a c) (fun d hd => hl d (List.mem_cons_of_mem _ hd)) (gd_app ha hc.1)
    refine ⟨h1, ?_⟩
    have : (appC a c).sz = 1 + (a.sz + (c.sz + 0)) := rfl
    rw [List.foldl_cons, List.length_cons]
    omega
theorem gd_tapps {t : Tp} (ht : TyS t) : ∀ (k : Nat) (a : Cr), Gd a → Gd ((List.replicate k t).foldl (fun a t => tappC t a) a) ∧ ((List.replicate k t).foldl (fun a t => tappC t a) a).sz = a.sz + k := by
  intro k
  induction k with
  | zero => intro a ha; exact ⟨ha, rfl⟩
  | succ k ih =>
    intro a ha
    obtain ⟨h1, h2⟩ := ih a ha
    rw [rep_foldl]
    refine ⟨gd_tapp ht h1, ?_⟩
    have : ∀ c : Cr, (tappC t c).sz = 1 + (c.sz + 0) := fun c => rfl
    rw [this]; omega
theorem gd_tlams (a : Cr) (ha : Gd a) (k : Nat) : ∀ (i : Nat), Gd (allC a k i) ∧ (allC a k i).sz = a.sz + i := by
  intro i
  induction i with
  | zero => exact ⟨ha, rfl⟩
  | succ i ih =>
    rw [allC_succ]
    refine ⟨gd_tlam ih.1, ?_⟩
    have : ∀ (s : ByteArray) (c : Cr), (tlamC s c).sz = 1 + (c.sz + 0) := fun s c => rfl
    rw [this]; omega
theorem gdApps {a b : Cr} (ha : Sm a) (hb : ∀ j, Sm (argC b j)) {k : Nat} (hk : k < 5) : Gd ((argsL b k).foldl appC a) ∧ ((argsL b k).foldl appC a).sz < 900000 := by
  have h := gd_apps (argsL b k) a (fun c hc => by obtain ⟨j, _, rfl⟩ := List.mem_map.1 hc; exact ⟨(hb j).gd, (hb j).sz⟩) ha.gd
  have hl : (argsL b k).length = k := by simp [argsL]
  have := ha.sz
  exact ⟨h.1, by have := h.2; rw [hl] at this; omega⟩
theorem gdTApps {a : Cr} {t : Tp} (ha : Sm a) (ht : TyS t) {k : Nat} (hk : k < 5) : Gd ((List.replicate k t).foldl (fun a t => tappC t a) a) ∧ ((List.replicate k t).foldl (fun a t => tappC t a) a).sz < 900000 := by
  have h := gd_tapps ht k a ha.gd
  have := ha.sz
  exact ⟨h.1, by omega⟩
theorem gdTLams {a : Cr} (ha : Sm a) {k : Nat} (hk : k < 5) : Gd (allC a k k) ∧ (allC a k k).sz < 900000 := by
  have h := gd_tlams a ha.gd k k
  have := ha.sz
  exact ⟨h.1, by omega⟩
theorem coreMakes_ok {s : ByteArray} {n : Int} {l0 l1 l2 : List Int} (hs : s.size < 9223372036854775808) (hn : InR n) (hl0 : l0.length < 9223372036854775808) (hr0 : ∀ x ∈ l0, InR x) (hl1 : l1.length < 9223372036854775808) (hr1 : ∀ x ∈ l1, InR x) (hl2 : l2.length < 9223372036854775808) (hr2 : ∀ x ∈ l2, InR x) :
    ACall Tryz.prog 6 [str s, .lit (.int .i64 n), .agg [.sl (eIs l0), .sl (eIs l1), .sl (eIs l2)]] (.sb true) := by
  obtain ⟨s', hS⟩ := short_ok s hs
  obtain ⟨a, ha, hpa, hA⟩ := made18_ok hl0 hr0
  obtain ⟨b, hb, hpb, hB⟩ := made18_ok hl1 hr1
  obtain ⟨t, hT, hgt, hts⟩ := made_ok hl2 hr2
  obtain ⟨k, hk, hK⟩ := around_ok (m := 5) hn (by decide) (by decide)
  have hk : k < 5 := by omega
  have htS : TyS t := ⟨(good_low hgt).mono (by decide), by have := dp_sz t; omega, by omega⟩
  have hzL : (lamC s' t a).sz < 900000 := by
    have h : (lamC s' t a).sz = 1 + (a.sz + 0) := rfl
    have := ha.sz
    omega
  have eqV : ∀ c : Cr, Gd c → c.sz < 900000 → ACall Tryz.prog n_fugueref18_Equal [eC c, eC c] (.sb true) := fun c h1 h2 => h1.eq h2
  have gV : Gd (vr s') := (vr_sm s').gd
  have gC : Gd (conC s') := gd_con _
  have gI : Gd (intC n) := (intSm n).gd
  have gL : Gd (lamC s' t a) := gd_lam htS ha.gd
  refine acall_of_wsem ttok mixed Tryz.func6 rfl (by rfl) (Nat.le_of_ble_eq_true rfl) (by kernel_rfl) ?_
  refine Wsem.seq ttok mixed ?_
  refine Wsem.seq ttok mixed ?_
  refine .inl ⟨_, hS, ?_⟩
  refine Wsem.cut { vs := [(0, .v (str s')), (1, sv n), (5, .box 0 (.agg [.sl (eIs l0), .sl (eIs l1), .sl (eIs l2)]))] } ⟨⟨rfl, rfl, rfl, trivial⟩, trivial, rfl⟩ ?_
  refine Wsem.shut 5 rfl ?_
  refine Wsem.cut { vs := [(0, .v (str s')), (1, sv n), (5, .v (.ptr [.sl (eIs l0), .sl (eIs l1), .sl (eIs l2)]))] } ⟨⟨rfl, rfl, rfl, trivial⟩, trivial, rfl⟩ ?_
  refine Wsem.seqS (Wsem.regionIx ttok rfl rfl rfl Tryz.underlying42 Tryz.sizeOf22 (by decide) (by decide) rfl ?_)
  refine .inl ⟨_, hA, ?_⟩
  refine Wsem.seqS (Wsem.regionIx ttok rfl rfl rfl Tryz.underlying42 Tryz.sizeOf22 (by decide) (by decide) rfl ?_)
  refine .inl ⟨_, hB, ?_⟩
  refine Wsem.seqS (Wsem.regionIx ttok rfl rfl rfl Tryz.underlying42 Tryz.sizeOf22 (by decide) (by decide) rfl ?_)
  refine .inl ⟨_, hT, ?_⟩
  refine Wsem.cut { vs := [(0, .v (str s')), (1, sv n), (7, .box 0 (eC a)), (8, .box 0 (eC b)), (9, .box 0 (eTy t))] } ⟨⟨rfl, rfl, rfl, rfl, rfl, trivial⟩, trivial, rfl⟩ ?_
  refine Wsem.seq ttok mixed ?_
  refine .inl ⟨_, var18_ok s', ?_⟩
  refine .inl ⟨_, eqV _ gV (by show 1 + 0 < 900000; decide), ?_⟩
  refine ⟨fun _ => ?_, fun h => absurd h (by decide)⟩
  refine .inl ⟨_, con18_ok s', ?_⟩
  refine .inl ⟨_, eqV _ gC (by show 1 + 0 < 900000; decide), ?_⟩
  refine ⟨fun _ => ?_, fun h => absurd h (by decide)⟩
  refine .inl ⟨_, int18_ok n, ?_⟩
  refine .inl ⟨_, eqV _ gI (by show 1 + 0 < 900000; decide), ?_⟩
  refine ⟨fun _ => ?_, fun h => absurd h (by decide)⟩
  refine .inl ⟨_, lam18_ok (s := s') htS ha.own, ?_⟩
  refine .inl ⟨_, eqV _ gL hzL, ?_⟩
  refine ⟨by kernel_rfl, ?_⟩
  refine ⟨fun h => absurd h (by decide), fun _ => ?_⟩
  refine Wsem.cut { vs := [(1, sv n), (7, .box 0 (eC a)), (8, .box 0 (eC b)), (9, .box 0 (eTy t))] } ⟨⟨rfl, rfl, rfl, rfl, trivial⟩, trivial, rfl⟩ ?_
  refine Wsem.seq ttok mixed ?_
  refine Wsem.seq ttok mixed ?_
  refine Wsem.seq ttok mixed ?_
  refine Wsem.seq ttok mixed ?_
  refine Wsem.seq ttok mixed ?_
  refine Wsem.seq ttok mixed ?_
  refine Wsem.seq ttok mixed ?_
  refine .inl ⟨_, hK, ?_⟩
  refine Wsem.seq ttok mixed ?_
  refine ⟨{i : Nat // i ≤ k}, fun i => { vs := [(7, .box 0 (eC a)), (8, .box 0 (eC b)), (9, .box 0 (eTy t)), (10, .v (.sl (eCs (argsL b i.1)))), (11, .v (.sl (eTys (List.replicate i.1 t)))), (12, .v (.sl (eSs (nmsL i.1)))), (13, .box 0 (eC ((argsL b i.1).foldl appC a))), (14, .box 0 (eC ((List.replicate i.1 t).foldl (fun a t => tappC t a) a))), (15, .box 0 (eC (allC a k i.1))), (16, sv (k : Nat)), (17, sv (i.1 : Nat))], ow := [(10, 0, 11), (11, 0, 5), (12, 0, 2)] }, fun i => k - i.1, ⟨0, Nat.zero_le _⟩, ⟨⟨rfl, rfl, rfl, rfl, rfl, rfl, rfl, rfl, rfl, rfl, rfl, trivial⟩, ⟨trivial, trivial, trivial, trivial⟩, rfl⟩, ?_⟩
  rintro ⟨i, hi⟩
  refine ⟨fun h => ?_, fun h => ?_⟩
  · have h : i < k := by
      have h := of_decide_eq_true h; simp only at h; omega
    refine ⟨by decide, ?_⟩
    refine ⟨fun h2 => ?_, fun h2 => ?_⟩
    · have h2 : i % 2 = 1 := by
        have h2 := of_decide_eq_true h2
        have e : ((i : Int).tmod 2) = ((i % 2 : Nat) : Int) := rfl
        rw [e] at h2; omega
      have hX : argC b i = intC (i : Nat) := if_pos h2
      have hi10 : (eCs (argsL b i)).length = i := by simp [eCs, argsL]
      have hi11 : (eTys (List.replicate i t)).length = i := by simp [eTys]
      have hi12 : (eSs (nmsL i)).length = i := by simp [eSs, nmsL]
      have e2 : IntKind.i64.wrap (IntKind.i64.wrap ((k : Nat) - 1 : Int) - (i : Nat)) = ((k - 1 - i : Nat) : Int) := by
        have a1 : IntKind.i64.wrap ((k : Nat) - 1 : Int) = (k : Int) - 1 := wrap_in (by unfold InR; omega)
        rw [a1, wrap_in (by unfold InR; omega)]; omega
      have hN2 : ACall Tryz.prog 17 [.lit (.int .i64 (IntKind.i64.wrap (IntKind.i64.wrap ((k : Nat) - 1 : Int) - (i : Nat))))] (str (lnF ((k - 1 - i : Nat) : Int))) := by rw [e2]; exact lnF_ok (inR_nat (by omega))
      refine ⟨by show (eCs (argsL b i)).length + 1 ≤ _; omega, uniC _, uni1 rfl, ?_⟩
      refine ⟨by show (eTys (List.replicate i t)).length + 1 ≤ _; omega, uniT _, uniT [_], ?_⟩
      refine .inl ⟨_, lnF_ok (inR_nat (k := i) (by omega)), ?_⟩
      refine ⟨by show (eSs (nmsL i)).length + 1 ≤ _; omega, uniS _, uniS [_], ?_⟩
      refine .inl ⟨_, hN2, ?_⟩
      refine ⟨by kernel_rfl, ?_⟩
      refine ⟨⟨i + 1, h⟩, by simp; omega, ⟨rfl, rfl, rfl, ?_, ?_, ?_, ?_, ?_, ?_, rfl, svc (wrap_succ (k := i) (by omega)), trivial⟩, ⟨rfl, rfl, rfl, trivial⟩, rfl⟩
      · show SV.v (.sl (eCs (argsL b i) ++ [eC (intC (i : Nat))])) = SV.v (.sl (eCs (argsL b (i + 1))))
        rw [argsL_succ, eCs, eCs, List.map_append, hX]; rfl
      · show SV.v (.sl (eTys (List.replicate i t) ++ [eTy t])) = SV.v (.sl (eTys (List.replicate (i + 1) t)))
        rw [List.replicate_succ', eTys, eTys, List.map_append]; rfl
      · show SV.v (.sl (eSs (nmsL i) ++ [str (lnF (i : Nat))])) = SV.v (.sl (eSs (nmsL (i + 1))))
        rw [nmsL_succ, eSs, eSs, List.map_append]; rfl
      · show SV.box 0 (eC (appC ((argsL b i).foldl appC a) (intC (i : Nat)))) = SV.box 0 (eC ((argsL b (i + 1)).foldl appC a))
        rw [argsL_succ, List.foldl_append, hX]; rfl
      · show SV.box 0 (eC (tappC t ((List.replicate i t).foldl (fun a t => tappC t a) a))) = SV.box 0 (eC ((List.replicate (i + 1) t).foldl (fun a t => tappC t a) a))
        rw [rep_foldl]
      · show SV.box 0 (eC (tlamC (lnF ((k - 1 - i : Nat) : Int)) (allC a k i))) = SV.box 0 (eC (allC a k (i + 1)))
        rw [allC_succ]
    · have h2 : ¬ i % 2 = 1 := by
        have h2 := of_decide_eq_false h2
        have e : ((i : Int).tmod 2) = ((i % 2 : Nat) : Int) := rfl
        rw [e] at h2; omega
      have hX : argC b i = b := if_neg h2
      have hi10 : (eCs (argsL b i)).length = i := by simp [eCs, argsL]
      have hi11 : (eTys (List.replicate i t)).length = i := by simp [eTys]
      have hi12 : (eSs (nmsL i)).length = i := by simp [eSs, nmsL]
      have e2 : IntKind.i64.wrap (IntKind.i64.wrap ((k : Nat) - 1 : Int) - (i : Nat)) = ((k - 1 - i : Nat) : Int) := by
        have a1 : IntKind.i64.wrap ((k : Nat) - 1 : Int) = (k : Int) - 1 := wrap_in (by unfold InR; omega)
        rw [a1, wrap_in (by unfold InR; omega)]; omega
      have hN2 : ACall Tryz.prog 17 [.lit (.int .i64 (IntKind.i64.wrap (IntKind.i64.wrap ((k : Nat) - 1 : Int) - (i : Nat))))] (str (lnF ((k - 1 - i : Nat) : Int))) := by rw [e2]; exact lnF_ok (inR_nat (by omega))
      refine ⟨by show (eCs (argsL b i)).length + 1 ≤ _; omega, uniC _, uni1 rfl, ?_⟩
      refine ⟨by show (eTys (List.replicate i t)).length + 1 ≤ _; omega, uniT _, uniT [_], ?_⟩
      refine .inl ⟨_, lnF_ok (inR_nat (k := i) (by omega)), ?_⟩
      refine ⟨by show (eSs (nmsL i)).length + 1 ≤ _; omega, uniS _, uniS [_], ?_⟩
      refine .inl ⟨_, hN2, ?_⟩
      refine ⟨by kernel_rfl, ?_⟩
      refine ⟨⟨i + 1, h⟩, by simp; omega, ⟨rfl, rfl, rfl, ?_, ?_, ?_, ?_, ?_, ?_, rfl, svc (wrap_succ (k := i) (by omega)), trivial⟩, ⟨rfl, rfl, rfl, trivial⟩, rfl⟩
      · show SV.v (.sl (eCs (argsL b i) ++ [eC b])) = SV.v (.sl (eCs (argsL b (i + 1))))
        rw [argsL_succ, eCs, eCs, List.map_append, hX]; rfl
      · show SV.v (.sl (eTys (List.replicate i t) ++ [eTy t])) = SV.v (.sl (eTys (List.replicate (i + 1) t)))
        rw [List.replicate_succ', eTys, eTys, List.map_append]; rfl
      · show SV.v (.sl (eSs (nmsL i) ++ [str (lnF (i : Nat))])) = SV.v (.sl (eSs (nmsL (i + 1))))
        rw [nmsL_succ, eSs, eSs, List.map_append]; rfl
      · show SV.box 0 (eC (appC ((argsL b i).foldl appC a) b)) = SV.box 0 (eC ((argsL b (i + 1)).foldl appC a))
        rw [argsL_succ, List.foldl_append, hX]; rfl
      · show SV.box 0 (eC (tappC t ((List.replicate i t).foldl (fun a t => tappC t a) a))) = SV.box 0 (eC ((List.replicate (i + 1) t).foldl (fun a t => tappC t a) a))
        rw [rep_foldl]
      · show SV.box 0 (eC (tlamC (lnF ((k - 1 - i : Nat) : Int)) (allC a k i))) = SV.box 0 (eC (allC a k (i + 1)))
        rw [allC_succ]
  · have h : i = k := by
      have h := of_decide_eq_false h; simp only at h; omega
    subst h
    refine Wsem.cut { vs := [(7, .box 0 (eC a)), (10, .v (.sl (eCs (argsL b i)))), (11, .v (.sl (eTys (List.replicate i t)))), (12, .v (.sl (eSs (nmsL i)))), (13, .box 0 (eC ((argsL b i).foldl appC a))), (14, .box 0 (eC ((List.replicate i t).foldl (fun a t => tappC t a) a))), (15, .box 0 (eC (allC a i i)))] } ⟨⟨rfl, rfl, rfl, rfl, rfl, rfl, rfl, trivial⟩, trivial, rfl⟩ ?_
    refine Wsem.of ttok mixed ?_
    have q1 := app18_ok (f := a) (l := argsL b i) ha.own (fun c hc => by obtain ⟨j, _, rfl⟩ := List.mem_map.1 hc; exact (wt_argC hb j).own) (by simp [argsL]; omega)
    have q2 := tapp18_ok (f := a) (l := List.replicate i t) ha.own (fun c hc => by rw [List.eq_of_mem_replicate hc]; exact htS) (by simp; omega)
    have q3 := tlam18_ok (f := a) (l := nmsL i) ha.own (by simp [nmsL]; omega)
    rw [allC_all a hk] at q3
    refine .inl ⟨_, q1, ?_⟩
    refine .inl ⟨_, eqV _ (gdApps ha (fun j => wt_argC hb j) hk).1 (gdApps ha (fun j => wt_argC hb j) hk).2, ?_⟩
    refine ⟨fun _ => ?_, fun h => absurd h (by decide)⟩
    refine .inl ⟨_, q2, ?_⟩
    refine .inl ⟨_, eqV _ (gdTApps ha htS hk).1 (gdTApps ha htS hk).2, ?_⟩
    refine ⟨fun _ => ?_, fun h => absurd h (by decide)⟩
    refine .inl ⟨_, q3, ?_⟩
    refine .inl ⟨_, eqV _ (gdTLams ha hk).1 (gdTLams ha hk).2, ?_⟩
    refine ⟨fun _ => ?_, fun h => absurd h (by decide)⟩
    refine .inl ⟨_, lives_ok, ?_⟩
    refine ⟨by kernel_rfl, ?_⟩
    exact rfl
end Go.Proofs.YtgonkhaebmfgiaaGreatDoor
