/- The document's lets, digits and names in the place of one. No condition. -/
import Derived.Test.YtefdahofpjmnfaaDoorO
set_option linter.unusedSimpArgs false
set_option linter.unusedVariables false
namespace Go.Proofs.YtefdahofpjmnfaaDoor
open Go Fp
set_option maxRecDepth 10000
set_option maxHeartbeats 16000000
set_option linter.unusedVariables false

theorem digit20_ok (i : Nat) (hi : i < 3) : ACall Tryd.prog n_fugueref20_digit [.lit (.int .i64 (i : Nat))] (.lit (.string (dig i))) := by
  match i, hi with
  | 0, _ | 1, _ | 2, _ =>
    refine acall_of_wcx ttok mixed Tryd.func78 rfl (by rfl) (Nat.le_of_ble_eq_true rfl) (by kernel_rfl) ?_
    refine ⟨by decide, ?_⟩
    exact rfl
  | i + 3, h => omega

theorem putN_ok (ns own : List ByteArray) (a : Nat) (ha : a < ns.length) (hn : ns.length < 10000) (ho : own.length < 10000) : ACall Tryd.prog n_fugueref20_put [.sl (eSs ns), .lit (.int .i64 (a : Nat)), .sl (eSs own)] (.sl (eSs (putN ns a own))) := by
  have hl := lenS ns
  have hd1 : List.drop (Int.toNat 0) (List.take (Int.toNat (a : Int)) (eSs ns)) = eSs (ns.take a) := by simp [eSs]
  have wa : IntKind.i64.wrap ((a : Int) + 1) = ((a + 1 : Nat) : Int) := wrap_succ (by omega)
  have hd2 : List.drop (Int.toNat (IntKind.i64.wrap ((a : Int) + 1))) (List.take (Int.toNat ((eSs ns).length : Nat)) (eSs ns)) = eSs (ns.drop (a + 1)) := by
    rw [wa, List.take_of_length_le (by omega)]; simp [eSs]
  refine acall_of_wcx ttok mixed Tryd.func80 rfl (by rfl) (Nat.le_of_ble_eq_true rfl) (by kernel_rfl) ?_
  refine ⟨by decide, by omega, by rw [hl]; omega, .inl rfl, ?_⟩
  refine ⟨by rw [hd1]; simp [eSs]; omega, uni0 _, (by rw [hd1]; exact uniS _), ?_⟩
  refine ⟨by rw [hd1]; simp [eSs]; omega, (by rw [hd1]; exact uniApp (uni0 _) (uniS _)), uniS _, ?_⟩
  refine ⟨by rw [wa]; omega, by rw [wa, hl]; omega, by rw [hl]; omega, .inr (uniS _), ?_⟩
  refine ⟨by rw [hd1, hd2]; simp [eSs]; omega, (by rw [hd1]; exact uniApp (uniApp (uni0 _) (uniS _)) (uniS _)), (by rw [hd2]; exact uniS _), ?_⟩
  rw [hd1, hd2]
  show AV.sl ([] ++ eSs (ns.take a) ++ eSs own ++ eSs (ns.drop (a + 1))) = _
  simp [putN, eSs]

theorem lenN (l : List Bd) : (eNs l).length = l.length := by simp [eNs]
theorem lenL (l : List Bd) : (eLs l).length = l.length := by simp [eLs]
theorem let_ok (to : Tp) (r : Rw) (ns : List ByteArray) (n : Int) (hn : ns.length = r.ps.length) (hl : r.ps.length < 10000) (hb : r.lost.length < 10000) :
    ACall Tryd.prog n_fugueref20_let [eRr r, .sl (eSs ns), eCi n] (eCr to (.leaf (r.lost ++ ownB r.ps ns) n)) := by
  have hP := lenP r.ps
  have hol := fun k => ownB_len (r.ps.take k) ns
  refine acall_of_wcx ttok mixed Tryd.func76 rfl (by rfl) (Nat.le_of_ble_eq_true rfl) (by kernel_rfl) ?_
  refine ⟨by simp [eNs]; omega, uni0 _, uniN _, ?_⟩
  refine ⟨{k : Nat // k ≤ r.ps.length}, fun k => { vs := [(1, .v (.sl (eSs ns))), (3, .box 0 (eRr r)), (5, .box 0 (eCi n)), (6, .box 0 zC), (7, .v (.sl (eNs (r.lost ++ ownB (r.ps.take k.1) ns)))), (8, sv (k.1 : Nat))], ow := [(7, 0, 7)] },
    fun k => r.ps.length - k.1, ⟨0, Nat.zero_le _⟩, ⟨⟨rfl, rfl, rfl, rfl, ?_, rfl, trivial⟩, ⟨rfl, trivial⟩, rfl⟩, ?_⟩
  · show SV.v (AV.sl ([] ++ eNs r.lost)) = SV.v (AV.sl (eNs (r.lost ++ ownB [] ns)))
    rw [show ownB [] ns = [] by simp [ownB], List.append_nil]; rfl
  rintro ⟨k, hk⟩
  refine ⟨fun h => ?_, fun h => ?_⟩
  · have h : k < r.ps.length := by have h := of_decide_eq_true h; rw [hP] at h; simp only at h; omega
    have hs : ns[k]? = some (ns[k]'(by omega)) := List.getElem?_eq_getElem _
    have hsn := ownB_snoc (r.ps.take k) r.ps[k] ns _ (by rw [show (r.ps.take k).length = k by simp; omega]; exact hs)
    rw [← List.take_succ_eq_append_getElem h] at hsn
    have hsg : (eSs ns)[k]? = some (.lit (.string (ns[k]'(by omega)))) := getS (by omega)
    have hk1 := hol k
    have hk2 : (r.ps.take k).length ≤ k := List.length_take_le _ _
    refine ⟨_, by omega, getP h, rfl, ?_⟩
    by_cases h2 : r.ps[k].f = 2
    · refine ⟨fun hbs => ?_, fun hbs => ?_⟩ <;> first | (exfalso; revert hbs; (simp [h2]); done) | skip
      refine ⟨_, by omega, getP h, rfl, ?_⟩
      refine ⟨_, by omega, getP h, rfl, ?_⟩
      refine ⟨_, by omega, hsg, rfl, ?_⟩
      refine ⟨by rw [lenN, List.length_append]; simp; omega, uniN _, uniN [(r.ps[k].s, r.ps[k].t, ns[k]'(by omega))], ?_⟩
      refine ⟨by kernel_rfl, ?_⟩
      refine ⟨⟨k + 1, h⟩, by simp; omega, ⟨rfl, rfl, rfl, rfl, ?_, svc (wrap_succ (k := k) (by omega)), trivial⟩, ⟨rfl, trivial⟩, rfl⟩
      show SV.v (AV.sl (eNs (r.lost ++ ownB (r.ps.take k) ns) ++ eNs [(r.ps[k].s, r.ps[k].t, ns[k]'(by omega))])) = SV.v (AV.sl (eNs (r.lost ++ ownB (r.ps.take (k + 1)) ns)))
      rw [hsn, if_pos h2]; simp [eNs]
    · refine ⟨fun hbs => ?_, fun hbs => ?_⟩ <;> first | (exfalso; revert hbs; (simp [h2]); done) | skip
      refine ⟨⟨k + 1, h⟩, by simp; omega, ⟨rfl, rfl, rfl, rfl, ?_, svc (wrap_succ (k := k) (by omega)), trivial⟩, ⟨rfl, trivial⟩, rfl⟩
      show SV.v (AV.sl (eNs (r.lost ++ ownB (r.ps.take k) ns))) = SV.v (AV.sl (eNs (r.lost ++ ownB (r.ps.take (k + 1)) ns)))
      rw [hsn, if_neg h2, List.append_nil]
  · have h : k = r.ps.length := by have h := of_decide_eq_false h; rw [hP] at h; simp only at h; omega
    subst h
    have hk1 := hol r.ps.length
    rw [List.take_length] at hk1
    rw [List.take_length]
    have hB : (r.lost ++ ownB r.ps ns).length < 20000 := by rw [List.length_append]; omega
    generalize r.lost ++ ownB r.ps ns = bs at hB ⊢
    by_cases h0 : bs = []
    · subst h0
      refine ⟨fun hbs => ?_, fun hbs => ?_⟩ <;> first | (exfalso; revert hbs; (simp [eNs]); done) | skip
      exact rfl
    · have hbl : bs.length ≠ 0 := fun h => h0 (List.length_eq_zero_iff.1 h)
      have e : ¬ ((eNs bs).length : Int) = 0 := by rw [lenN]; omega
      refine ⟨fun hbs => ?_, fun hbs => ?_⟩ <;> first | (exfalso; revert hbs; (simp [eNs, h0]); done) | skip
      refine ⟨{k : Nat // k ≤ bs.length}, fun k => { vs := [(6, .box 0 zC), (7, .v (.sl (eNs bs))), (9, .box 0 (.agg [.lit (.int .i64 8), .lit (.int .i64 0), .lit (.string .empty), .lit (.int .i64 0), .lit (.int .i64 0), .lit (.string .empty), .sl [], .sl [eCi n], .sl (eLs (bs.take k.1)), .sl []])), (10, sv (k.1 : Nat))], ow := [(9, 8, 16)] },
        fun k => bs.length - k.1, ⟨0, Nat.zero_le _⟩, ⟨⟨rfl, rfl, rfl, rfl, trivial⟩, ⟨trivial, trivial⟩, rfl⟩, ?_⟩
      rintro ⟨k, hk⟩
      refine ⟨fun h => ?_, fun h => ?_⟩
      · have h : k < bs.length := by have h := of_decide_eq_true h; rw [lenN] at h; simp only at h; omega
        have hg : (eNs bs)[k]? = some (eN bs[k]) := getM h
        have htk := List.take_succ_eq_append_getElem h
        refine ⟨_, by omega, hg, rfl, ?_⟩
        refine ⟨_, by omega, hg, rfl, ?_⟩
        refine ⟨_, by omega, hg, rfl, ?_⟩
        refine ⟨by rw [lenL]; simp; omega, uniL _, uniL [bs[k]], ?_⟩
        refine ⟨by kernel_rfl, ?_⟩
        refine ⟨⟨k + 1, h⟩, by simp; omega, ⟨rfl, rfl, ?_, svc (wrap_succ (k := k) (by omega)), trivial⟩, ⟨rfl, trivial⟩, rfl⟩
        show SV.box 0 (AV.agg [.lit (.int .i64 8), .lit (.int .i64 0), .lit (.string .empty), .lit (.int .i64 0), .lit (.int .i64 0), .lit (.string .empty), .sl [], .sl [eCi n], .sl (eLs (bs.take k) ++ eLs [bs[k]]), .sl []]) = _
        rw [htk]; simp only [eLs, List.map_append, List.map_cons, List.map_nil]
      · have h : k = bs.length := by have h := of_decide_eq_false h; rw [lenN] at h; simp only at h; omega
        subst h
        rw [List.take_length]
        cases bs with
        | nil => exact absurd rfl h0
        | cons q bs => exact rfl
end Go.Proofs.YtefdahofpjmnfaaDoor

namespace Go.Proofs.YtefdahofpjmnfaaDoor
open Go Fp
set_option maxRecDepth 10000
set_option maxHeartbeats 16000000
set_option linter.unusedVariables false

abbrev dAV : AV := .sl (wTab.map eD)
abbrev MadeD (to : Tp) (b : Nat → Int) (bs : List Int) (n : Nat) (l : List Rw) (ns : List ByteArray) : Prop :=
  ACall Tryd.prog n_fugueref20_made [dAV, .sl (eRrs l), .sl (eSs ns), .sl (eCis bs), eTy to] (eCr to (made b n l ns))
abbrev aAlt (f n : Int) (s : ByteArray) (vs : List ByteArray) : AV := .agg [.lit (.int .i64 f), .lit (.int .i64 n), .lit (.string s), .sl (eSs vs), .lit (.int .i64 0), .lit (.int .i64 0), .lit (.string .empty), .lit (.int .i64 0), .lit (.int .i64 0), .lit (.string .empty), .sl [], .sl [], .sl [], .sl []]

theorem madeD_fail (to : Tp) (b : Nat → Int) (bs : List Int) (n : Nat) (ns : List ByteArray) : MadeD to b bs (n + 1) [] ns := by
  refine acall_of_wcx ttok mixed Tryd.func45 rfl (by rfl) (Nat.le_of_ble_eq_true rfl) (by kernel_rfl) ?_
  refine ⟨fun _ => ?_, fun h => by cases h⟩
  exact rfl

section
variable {to : Tp} {b : Nat → Int} {bs : List Int} {n : Nat} {r : Rw} {l : List Rw} {ns : List ByteArray}
theorem lenRr (l : List Rw) : (eRrs l).length = l.length := by simp [eRrs]
abbrev frD (to : Tp) (bs : List Int) (rows : List Rw) (ns : List ByteArray) (k : Nat) : Fr := { vs := [(0, .v dAV), (1, .v (.sl (eRrs rows))), (2, .v (.sl (eSs ns))), (3, .v (.sl (eCis bs))), (9, .box 0 (eTy to)), (10, .box 0 zC), (11, sv (k : Nat))] }
abbrev WD (rows : List Rw) (to : Tp) (bs : List Int) (ns : List ByteArray) (k : Nat) (R : AV) : Prop :=
  Wsem Tryd.prog (sndC (sndC (sndC (sndC (bodyC Tryd.f45))))) (mkC (frD to bs rows ns k)) (fun c => RetP tt Tryd.f45.results.toList R (den c)) (fun _ _ => False) (fun c => RetP tt Tryd.f45.results.toList R (den c))

theorem tailD_leaf {rows : List Rw} (hR0 : rows[0]? = some r) (hn : ns.length = r.ps.length) (hl : r.ps.length < 10000) (hb : r.lost.length < 10000) (hbs : bs[r.body]? = some (b r.body)) : WD rows to bs ns r.ps.length (eCr to (.leaf (r.lost ++ ownB r.ps ns) (b r.body))) := by
  have hL := let_ok to r ns (b r.body) hn hl hb
  have hP := lenP r.ps
  have hRr : (eRrs rows)[0]? = some (eRr r) := by simp [eRrs, hR0]
  have hBg : (eCis bs)[r.body]? = some (eCi (b r.body)) := by simp [eCis, hbs]
  refine Wsem.of ttok mixed ?_
  refine ⟨_, by omega, hRr, rfl, ?_⟩
  refine ⟨fun hbs => ?_, fun hbs => ?_⟩ <;> first | (exfalso; revert hbs; (simp [hP]); done) | skip
  refine ⟨_, by omega, hRr, rfl, ?_⟩
  refine ⟨_, by omega, hRr, rfl, ?_⟩
  refine ⟨_, by omega, hBg, rfl, ?_⟩
  refine .inl ⟨_, hL, ?_⟩
  refine ⟨by kernel_rfl, ?_⟩
  exact rfl

theorem tailD_con {rows : List Rw} {a : Nat} {p : Pt} {v : ByteArray} {qs : List (ByteArray × List Tp)} (hR0 : rows[0]? = some r) (ha : a < r.ps.length) (hp : r.ps[a]? = some p) (hv : ns[a]? = some v) (h4 : p.f = 4) (hn : ns.length = r.ps.length) (hl : r.ps.length < 10000) (hll : rows.length < 10000) (hvs : v.size ≤ 100000)
    (hC : ACall Tryd.prog n_fugueref20_Cons [dAV, .sl (eRrs rows), .lit (.int .i64 (a : Nat))] (.tup [.sl (eCons qs), .sb true])) (hq3 : qs.length ≤ 3) (hq2 : ∀ q ∈ qs, q.2.length ≤ 2) (hcol : ∀ x ∈ rows, colOk a x)
    (hM : ∀ q ∈ qs, MadeD to b bs n (parts (.con q.1 q.2.length) a v rows) (putN ns a (kidsN v q.2.length))) :
    WD rows to bs ns a (eCr to (.cas v (qs.map fun q => (1, 0, q.1, kidsN v q.2.length)) (qs.map fun q => made b n (parts (.con q.1 q.2.length) a v rows) (putN ns a (kidsN v q.2.length))))) := by
  have hP := lenP r.ps
  have hRr : (eRrs rows)[0]? = some (eRr r) := by simp [eRrs, hR0]
  have hal : a < ns.length := by omega
  have hsg : (eSs ns)[a]? = some (.lit (.string v)) := by simp [eSs, hv]
  have hpg : (ePts r.ps)[a]? = some (ePt p) := by simp [ePts, hp]
  have hF := fun (K : Kn) (hm : K.many ≤ 2) => Apart_ok K rows a v hcol hm hll
  have hW := fun (own : List ByteArray) (ho : own.length < 10000) => putN_ok ns own a hal (by omega) ho
  refine Wsem.of ttok mixed ?_
  refine ⟨_, by omega, hRr, rfl, ?_⟩
  refine ⟨fun hbs => ?_, fun hbs => ?_⟩ <;> first | (exfalso; revert hbs; (simp [hP]; omega); done) | skip
  refine ⟨_, by omega, hsg, rfl, ?_⟩
  refine ⟨_, by omega, hRr, rfl, ?_⟩
  refine ⟨_, by omega, hpg, rfl, ?_⟩
  refine ⟨fun hbs => ?_, fun hbs => ?_⟩ <;> first | (exfalso; revert hbs; (simp [h4]); done) | skip
  refine .inl ⟨_, hC, ?_⟩
  refine ⟨{k : Nat // k ≤ qs.length}, fun k => { vs := [(0, .v dAV), (1, .v (.sl (eRrs rows))), (2, .v (.sl (eSs ns))), (3, .v (.sl (eCis bs))), (9, .box 0 (eTy to)), (10, .box 0 zC), (11, sv (a : Nat)), (12, .v (.lit (.string v))),
      (13, .box 0 (cC to v ((qs.take k.1).map fun q => eAlt to (1, 0, q.1, kidsN v q.2.length) (made b n (parts (.con q.1 q.2.length) a v rows) (putN ns a (kidsN v q.2.length)))))), (14, .v (.sl (eCons qs))), (16, sv (k.1 : Nat))], ow := [(13, 9, 15)] },
    fun k => qs.length - k.1, ⟨0, Nat.zero_le _⟩, ⟨⟨rfl, rfl, rfl, rfl, rfl, rfl, rfl, rfl, rfl, rfl, rfl, trivial⟩, ⟨trivial, trivial⟩, rfl⟩, ?_⟩
  rintro ⟨k, hk⟩
  refine ⟨fun h => ?_, fun h => ?_⟩
  · have h : k < qs.length := by have h := of_decide_eq_true h; rw [lenC] at h; simp only at h; omega
    have hqm := List.getElem_mem h
    have hqg : (eCons qs)[k]? = some (eCon qs[k]) := getM h
    have hq := hq2 _ hqm
    have hMk := hM _ hqm
    have htk := List.take_succ_eq_append_getElem h
    generalize qs[k] = q at *
    refine ⟨_, by omega, hqg, rfl, ?_⟩
    refine ⟨{i : Nat // i ≤ q.2.length}, fun i => { vs := [(0, .v dAV), (1, .v (.sl (eRrs rows))), (2, .v (.sl (eSs ns))), (3, .v (.sl (eCis bs))), (9, .box 0 (eTy to)), (10, .box 0 zC), (11, sv (a : Nat)), (12, .v (.lit (.string v))),
        (13, .box 0 (cC to v ((qs.take k).map fun q => eAlt to (1, 0, q.1, kidsN v q.2.length) (made b n (parts (.con q.1 q.2.length) a v rows) (putN ns a (kidsN v q.2.length)))))), (14, .v (.sl (eCons qs))), (16, sv (k : Nat)), (17, .box 0 (aAlt 1 0 q.1 (kidsN v i.1))), (18, sv (i.1 : Nat))], ow := [(13, 9, 15), (17, 3, 2)] },
      fun i => q.2.length - i.1, ⟨0, Nat.zero_le _⟩, ⟨⟨rfl, rfl, rfl, rfl, rfl, rfl, rfl, rfl, rfl, rfl, rfl, rfl, rfl, trivial⟩, ⟨rfl, trivial, trivial⟩, rfl⟩, ?_⟩
    rintro ⟨i, hi⟩
    refine ⟨_, by omega, hqg, rfl, ?_⟩
    refine ⟨fun h' => ?_, fun h' => ?_⟩
    · have h' : i < q.2.length := by have h' := of_decide_eq_true h'; rw [lenT] at h'; simp only at h'; omega
      refine ⟨by show v.size + 1 ≤ _; omega, ?_⟩
      refine .inl ⟨_, digit20_ok i (by omega), ?_⟩
      refine ⟨by show (v ++ ⟨#[64]⟩).size + (dig i).size ≤ _; rw [ByteArray.size_append]; show v.size + 1 + 1 ≤ _; omega, ?_⟩
      refine ⟨by rw [lenS, kidsN_len]; simp; omega, uniS _, uniS [kidN v i], ?_⟩
      refine ⟨by kernel_rfl, ?_⟩
      refine ⟨⟨i + 1, h'⟩, by simp; omega, ⟨rfl, rfl, rfl, rfl, rfl, rfl, rfl, rfl, rfl, rfl, rfl, ?_, svc (wrap_succ (k := i) (by omega)), trivial⟩, ⟨rfl, rfl, trivial⟩, rfl⟩
      show SV.box 0 (AV.agg [.lit (.int .i64 1), .lit (.int .i64 0), .lit (.string q.1), .sl (eSs (kidsN v i) ++ eSs [kidN v i]), .lit (.int .i64 0), .lit (.int .i64 0), .lit (.string .empty), .lit (.int .i64 0), .lit (.int .i64 0), .lit (.string .empty), .sl [], .sl [], .sl [], .sl []]) = SV.box 0 (aAlt 1 0 q.1 (kidsN v (i + 1)))
      rw [kidsN_succ]; unfold aAlt; rw [show eSs (kidsN v i ++ [kidN v i]) = eSs (kidsN v i) ++ eSs [kidN v i] from List.map_append]
    · have h' : i = q.2.length := by have h' := of_decide_eq_false h'; rw [lenT] at h'; simp only at h'; omega
      subst h'
      have hFq := hF (.con q.1 q.2.length) hq
      have hWq := hW (kidsN v q.2.length) (by rw [kidsN_len]; omega)
      have e1 : ((Kn.num (.con q.1 q.2.length))) = ((eSs (kidsN v q.2.length)).length : Nat) := by rw [lenS, kidsN_len]; rfl
      rw [e1] at hFq
      refine ⟨_, by omega, hqg, rfl, ?_⟩
      refine .inl ⟨_, hFq, ?_⟩
      refine .inl ⟨_, hWq, ?_⟩
      refine .inl ⟨_, hMk, ?_⟩
      refine ⟨by kernel_rfl, ?_⟩
      refine ⟨by simp; omega, uniA to (fun q : ByteArray × List Tp => (1, 0, q.1, kidsN v q.2.length)) (fun q => made b n (parts (.con q.1 q.2.length) a v rows) (putN ns a (kidsN v q.2.length))) _, uni1 rfl, ?_⟩
      refine ⟨⟨k + 1, h⟩, by simp; omega, ⟨rfl, rfl, rfl, rfl, rfl, rfl, rfl, rfl, ?_, rfl, svc (wrap_succ (k := k) (by omega)), trivial⟩, ⟨rfl, trivial⟩, rfl⟩
      show SV.box 0 (cC to v (((qs.take k).map fun q => eAlt to (1, 0, q.1, kidsN v q.2.length) (made b n (parts (.con q.1 q.2.length) a v rows) (putN ns a (kidsN v q.2.length)))) ++ [eAlt to (1, 0, q.1, kidsN v q.2.length) (made b n (parts (.con q.1 q.2.length) a v rows) (putN ns a (kidsN v q.2.length)))])) = _
      rw [htk, List.map_append]; rfl
  · have h : k = qs.length := by have h := of_decide_eq_false h; rw [lenC] at h; simp only at h; omega
    subst h
    rw [eCr_cas, altsL_map, List.take_length]
    exact rfl

theorem tailD_int {rows : List Rw} {a : Nat} {p : Pt} {v : ByteArray} {is : List Int} (hR0 : rows[0]? = some r) (ha : a < r.ps.length) (hp : r.ps[a]? = some p) (hv : ns[a]? = some v) (h4 : p.f ≠ 4) (hn : ns.length = r.ps.length) (hl : r.ps.length < 10000) (hll : rows.length < 10000)
    (hC : ACall Tryd.prog n_fugueref20_Ints [.sl (eRrs rows), .lit (.int .i64 (a : Nat))] (.sl (eIs is))) (his : is.length < 10000) (hcol : ∀ x ∈ rows, colOk a x)
    (hM : ∀ x ∈ is, MadeD to b bs n (parts (.int x) a v rows) (putN ns a [])) (hN : MadeD to b bs n (parts .none a v rows) (putN ns a [])) :
    WD rows to bs ns a (eCr to (.cas v (is.map (fun x => (2, x, .empty, [])) ++ [(3, 0, .empty, [])]) (is.map (fun x => made b n (parts (.int x) a v rows) (putN ns a [])) ++ [made b n (parts .none a v rows) (putN ns a [])]))) := by
  have hP := lenP r.ps
  have hRr : (eRrs rows)[0]? = some (eRr r) := by simp [eRrs, hR0]
  have hal : a < ns.length := by omega
  have hsg : (eSs ns)[a]? = some (.lit (.string v)) := by simp [eSs, hv]
  have hpg : (ePts r.ps)[a]? = some (ePt p) := by simp [ePts, hp]
  have hF := fun (K : Kn) (hm : K.many ≤ 2) => Apart_ok K rows a v hcol hm hll
  have hW := putN_ok ns [] a hal (by omega) (by simp)
  refine Wsem.of ttok mixed ?_
  refine ⟨_, by omega, hRr, rfl, ?_⟩
  refine ⟨fun hbs => ?_, fun hbs => ?_⟩ <;> first | (exfalso; revert hbs; (simp [hP]; omega); done) | skip
  refine ⟨_, by omega, hsg, rfl, ?_⟩
  refine ⟨_, by omega, hRr, rfl, ?_⟩
  refine ⟨_, by omega, hpg, rfl, ?_⟩
  refine ⟨fun hbs => ?_, fun hbs => ?_⟩ <;> first | (exfalso; revert hbs; (simp [h4]); done) | skip
  refine .inl ⟨_, hC, ?_⟩
  refine ⟨{k : Nat // k ≤ is.length}, fun k => { vs := [(0, .v dAV), (1, .v (.sl (eRrs rows))), (2, .v (.sl (eSs ns))), (3, .v (.sl (eCis bs))), (9, .box 0 (eTy to)), (10, .box 0 zC), (11, sv (a : Nat)), (12, .v (.lit (.string v))),
      (13, .box 0 (cC to v ((is.take k.1).map fun x => eAlt to (2, x, .empty, []) (made b n (parts (.int x) a v rows) (putN ns a []))))), (19, .v (.sl (eIs is))), (20, sv (k.1 : Nat))], ow := [(13, 9, 15)] },
    fun k => is.length - k.1, ⟨0, Nat.zero_le _⟩, ⟨⟨rfl, rfl, rfl, rfl, rfl, rfl, rfl, rfl, rfl, rfl, rfl, trivial⟩, ⟨trivial, trivial⟩, rfl⟩, ?_⟩
  rintro ⟨k, hk⟩
  refine ⟨fun h => ?_, fun h => ?_⟩
  · have h : k < is.length := by have h := of_decide_eq_true h; rw [lenI] at h; simp only at h; omega
    have hqm := List.getElem_mem h
    have hqg := getI h
    have hMk := hM _ hqm
    have htk := List.take_succ_eq_append_getElem h
    generalize is[k] = x at *
    have hFq := hF (.int x) (Nat.zero_le 2)
    refine ⟨_, by omega, hqg, rfl, ?_⟩
    refine .inl ⟨_, hFq, ?_⟩
    refine .inl ⟨_, hW, ?_⟩
    refine .inl ⟨_, hMk, ?_⟩
    refine ⟨by kernel_rfl, ?_⟩
    refine ⟨_, by omega, hqg, rfl, ?_⟩
    refine ⟨by simp; omega, uniA to (fun x : Int => (2, x, .empty, [])) (fun x => made b n (parts (.int x) a v rows) (putN ns a [])) _, uni1 rfl, ?_⟩
    refine ⟨by kernel_rfl, ?_⟩
    refine ⟨⟨k + 1, h⟩, by simp; omega, ⟨rfl, rfl, rfl, rfl, rfl, rfl, rfl, rfl, ?_, rfl, svc (wrap_succ (k := k) (by omega)), trivial⟩, ⟨rfl, trivial⟩, rfl⟩
    show SV.box 0 (cC to v (((is.take k).map fun x => eAlt to (2, x, .empty, []) (made b n (parts (.int x) a v rows) (putN ns a []))) ++ [eAlt to (2, x, .empty, []) (made b n (parts (.int x) a v rows) (putN ns a []))])) = _
    rw [htk, List.map_append]; rfl
  · have h : k = is.length := by have h := of_decide_eq_false h; rw [lenI] at h; simp only at h; omega
    subst h
    have hFq := hF .none (Nat.zero_le 2)
    rw [eCr_cas, altsL_app to _ _ _ _ (by simp), altsL_map, List.take_length, altsL_cons, altsL_nil]
    refine .inl ⟨_, hFq, ?_⟩
    refine .inl ⟨_, hW, ?_⟩
    refine .inl ⟨_, hN, ?_⟩
    refine ⟨by kernel_rfl, ?_⟩
    refine ⟨by simp; omega, uniA to (fun x : Int => (2, x, .empty, [])) (fun x => made b n (parts (.int x) a v rows) (putN ns a [])) _, uni1 rfl, ?_⟩
    exact rfl
end
end Go.Proofs.YtefdahofpjmnfaaDoor

namespace Go.Proofs.YtefdahofpjmnfaaDoor
open Go Fp
set_option maxRecDepth 10000
set_option maxHeartbeats 16000000
set_option linter.unusedVariables false

theorem madeD_step {to : Tp} {bs : List Int} {r : Rw} {l : List Rw} {ns : List ByteArray} {i : Nat} {R : AV} (hi : (∃ h : i < r.ps.length, r.ps[i].opn = false) ∨ i = r.ps.length) (ho : ∀ j (hj : j < r.ps.length), j < i → r.ps[j].opn = true) (hl : r.ps.length < 10000)
    (h : WD (r :: l) to bs ns i R) : ACall Tryd.prog n_fugueref20_made [dAV, .sl (eRrs (r :: l)), .sl (eSs ns), .sl (eCis bs), eTy to] R := by
  have hP := lenP r.ps
  have hRr : (eRrs (r :: l))[0]? = some (eRr r) := rfl
  have hop := open20_ok
  have hil : i ≤ r.ps.length := by rcases hi with ⟨h, _⟩ | h <;> omega
  refine acall_of_wsem ttok mixed Tryd.func45 rfl (by rfl) (Nat.le_of_ble_eq_true rfl) (by kernel_rfl) ?_
  refine Wsem.seq ttok mixed ?_
  refine Wsem.seq ttok mixed ?_
  refine ⟨fun h => (by cases h), fun _ => ?_⟩
  refine Wsem.seq ttok mixed ?_
  refine Wsem.seq ttok mixed ?_
  refine ⟨{k : Nat // k ≤ i}, fun k => frD to bs (r :: l) ns k.1, fun k => i - k.1, ⟨0, Nat.zero_le _⟩, ⟨⟨rfl, rfl, rfl, rfl, rfl, rfl, rfl, trivial⟩, trivial, rfl⟩, ?_⟩
  rintro ⟨k, hk⟩
  refine ⟨_, by omega, hRr, rfl, ?_⟩
  refine ⟨fun h1 => ?_, fun h1 => ?_⟩
  · have h1 : k < r.ps.length := by have h1 := of_decide_eq_true h1; rw [hP] at h1; simp only at h1; omega
    refine ⟨_, by omega, hRr, rfl, ?_⟩
    refine ⟨_, by omega, getP h1, rfl, ?_⟩
    refine .inl ⟨_, hop _, ?_⟩
    refine ⟨fun h2 => ?_, fun h2 => ?_⟩
    · have hki : k < i := by
        rcases Nat.lt_or_ge k i with h | h
        · exact h
        · have : k = i := by omega
          subst this
          rcases hi with ⟨h3, h4⟩ | h3
          · rw [h4] at h2; cases h2
          · omega
      exact ⟨⟨k + 1, hki⟩, by simp; omega, ⟨rfl, rfl, rfl, rfl, rfl, rfl, svc (wrap_succ (k := k) (by omega)), trivial⟩, trivial, rfl⟩
    · have hki : k = i := by
        rcases Nat.lt_or_ge k i with h | h
        · rw [ho k h1 h] at h2; cases h2
        · omega
      subst hki
      refine Wsem.cut _ ?_ h
      exact ⟨⟨rfl, rfl, rfl, rfl, rfl, rfl, rfl, trivial⟩, trivial, rfl⟩
  · have h1 : ¬ k < r.ps.length := by have h1 := of_decide_eq_false h1; rw [hP] at h1; simp only at h1; omega
    have hki : k = i := by omega
    subst hki
    refine Wsem.cut _ ?_ h
    exact ⟨⟨rfl, rfl, rfl, rfl, rfl, rfl, rfl, trivial⟩, trivial, rfl⟩

theorem madeD_ok (to : Tp) (b : Nat → Int) (bs : List Int) : ∀ (n : Nat) (l : List Rw) (cs : List Nat) (ns : List ByteArray), RowsTy cs n l → ns.length = cs.length → (∀ s ∈ ns, s.size + 2 * n ≤ 100000) → (∀ r ∈ l, bs[r.body]? = some (b r.body)) → MadeD to b bs n l ns := by
  intro n
  induction n with
  | zero => intro l cs ns h; have := h.fuel; omega
  | succ n ih =>
    intro l cs ns h hn hs hb
    have hcap := h.cap
    have hfu := h.fuel
    cases l with
    | nil => exact madeD_fail to b bs n ns
    | cons r l =>
      have hrow := h.row r (by simp)
      have hrt := hrow.ty
      have hpl := hrt.len
      have hlost := hrow.lost
      obtain ⟨i, hi⟩ := shutAt_ex r.ps
      rcases hi with ⟨k, rfl, hk, h1, h2⟩ | ⟨rfl, ho⟩
      · obtain ⟨t, ha⟩ : ∃ t, cs[k]? = some t := ⟨_, List.getElem?_eq_getElem (by omega)⟩
        obtain ⟨p, hp, hty⟩ := hrt.get ha
        have hpk : p = r.ps[k] := by rw [List.getElem?_eq_getElem hk] at hp; injection hp with hp; exact hp.symm
        have hop : p.opn = false := by rw [hpk]; exact h1
        obtain ⟨v, hv⟩ : ∃ v, ns[k]? = some v := ⟨_, List.getElem?_eq_getElem (by omega)⟩
        have hvm := hs v (List.mem_of_getElem? hv)
        have hix := shutIx_some hk h1 h2
        have hcol : ∀ x ∈ r :: l, colOk k x := fun x hx => (h.row x hx).col ha (by omega)
        have hsz : ∀ own, (∀ s ∈ own, s.size = v.size + 2) → ∀ s ∈ putN ns k own, s.size + 2 * n ≤ 100000 := fun own ho s hm => by
          rcases putN_mem hm with hm | hm
          · have := hs s hm; omega
          · have := ho s hm; omega
        have hbp : ∀ K, ∀ x ∈ parts K k v (r :: l), bs[x.body]? = some (b x.body) := fun K x hx => by
          obtain ⟨r', hr', hp'⟩ := List.mem_filterMap.1 hx
          have e : x.body = r'.body := by
            unfold part at hp'
            split at hp'
            · cases hp'
            · split at hp'
              · injection hp' with hp'; subst hp'; rfl
              · split at hp'
                · injection hp' with hp'; subst hp'; rfl
                · cases hp'
          rw [e]; exact hb r' hr'
        have less : ∀ K, Fit t K [] → MadeD to b bs n (parts K k v (r :: l)) (putN ns k []) := fun K hK =>
          ih _ _ _ (h.lessA ha hK) (by rw [putN_len _ _ _ (by omega)]; simp; omega) (hsz [] (fun s hm => by simp at hm)) (hbp K)
        have h43 : p.f = 4 ∨ p.f = 3 := by
          have := hty.form.1
          simp only [Pt.opn, Bool.or_eq_false_iff, decide_eq_false_iff_not] at hop
          omega
        by_cases h4 : p.f = 4
        · rcases colCons_ty ha h.tys with ⟨_, hno⟩ | ⟨hks, ht0, ht5, hh⟩
          · exact absurd h4 (hno r (by simp) p hp)
          · have hC := Cons_ok (r :: l) k hcol h.len
            rw [hks] at hC
            have hmd : made b (n + 1) (r :: l) ns = .cas v ((consT t).map fun q => (1, 0, q.1, kidsN v q.2.length)) ((consT t).map fun q => made b n (parts (.con q.1 q.2.length) k v (r :: l)) (putN ns k (kidsN v q.2.length))) := by
              rw [made, hix]; simp only [hp, hv, if_pos h4, hks]
            unfold MadeD
            rw [hmd]
            refine madeD_step (i := k) (.inl ⟨hk, h1⟩) (fun j hj hjk => h2 j hj hjk) (by omega) ?_
            refine tailD_con (b := b) (n := n) rfl hk hp hv h4 (by omega) (by omega) h.len (by omega) hC (consT_len t) (fun q hq => ?_) hcol (fun q hq => ?_)
            · obtain ⟨fs, hfs, hfl⟩ := consT_at hq
              have : fs.length ≤ 2 := (wCons_fs hfs).1; omega
            · obtain ⟨fs, hfs, hfl⟩ := consT_at hq
              have hT := h.conA (y := v) ha hfs ⟨r, by simp, p, hp, h4⟩
              rw [hfl] at hT
              exact ih _ _ _ hT (by rw [putN_len _ _ _ (by omega), kidsN_len]; simp; omega) (hsz _ (fun s hm => kidsN_sz hm)) (hbp _)
        · have h3 : p.f = 3 := by omega
          obtain ⟨ht, _, _⟩ := ty_int hty h3
          subst ht
          have hmd : made b (n + 1) (r :: l) ns = .cas v ((intsOf k (r :: l)).map (fun x => (2, x, .empty, [])) ++ [(3, 0, .empty, [])]) ((intsOf k (r :: l)).map (fun x => made b n (parts (.int x) k v (r :: l)) (putN ns k [])) ++ [made b n (parts .none k v (r :: l)) (putN ns k [])]) := by
            rw [made, hix]; simp only [hp, hv, if_neg h4]
          have hil : (intsOf k (r :: l)).length < 10000 := by have := ints_le k (r :: l) []; have := h.len; unfold intsOf; simp at *; omega
          unfold MadeD
          rw [hmd]
          refine madeD_step (i := k) (.inl ⟨hk, h1⟩) (fun j hj hjk => h2 j hj hjk) (by omega) ?_
          exact tailD_int (b := b) (n := n) rfl hk hp hv h4 (by omega) (by omega) h.len (Ints_ok (r :: l) k hcol h.len) hil hcol (fun x _ => less _ (.int x)) (less _ (.none 0))
      · have hmd : made b (n + 1) (r :: l) ns = .leaf (r.lost ++ ownB r.ps ns) (b r.body) := by rw [made, shutIx_none ho]
        unfold MadeD
        rw [hmd]
        refine madeD_step (i := r.ps.length) (.inr rfl) (fun j hj _ => ho _ (List.getElem_mem hj)) (by omega) ?_
        exact tailD_leaf (b := b) rfl (by omega) (by omega) (by omega) (hb r (by simp))

theorem compileD_ok {t : Nat} {ps : List Pt} (h : PatsOk t ps) (to : Tp) (s : ByteArray) (hs : s.size ≤ 1) (b : Nat → Int) (bs : List Int) (hb : ∀ k, k < ps.length → bs[k]? = some (b k)) :
    ACall Tryd.prog n_fugueref20_Compile [dAV, .lit (.string s), .sl (ePts ps), .sl (eCis bs), eTy to] (eCr to (made b 300 (rowsFrom 0 ps) [s])) := by
  have hR := rows20_ok ps (by have := h.2.1; omega)
  have hM := madeD_ok to b bs 300 (rowsFrom 0 ps) [t] [s] h.all rfl (fun x hx => by simp at hx; subst hx; omega) (fun r hr => by
    obtain ⟨k, hk⟩ := List.getElem?_of_mem hr
    have hg := rowsFrom_get ps 0 k
    rw [hk] at hg
    have hkl := (List.getElem?_eq_some_iff.1 hk).1
    rw [rowsFrom_len] at hkl
    rw [List.getElem?_eq_getElem hkl] at hg
    simp only [Option.map_some] at hg
    injection hg with hg
    rw [hg]; simp only [Nat.zero_add]; exact hb k hkl)
  refine acall_of_wcx ttok mixed Tryd.func12 rfl (by rfl) (Nat.le_of_ble_eq_true rfl) (by kernel_rfl) ?_
  refine .inl ⟨_, hR, ?_⟩
  refine .inl ⟨_, hM, ?_⟩
  refine ⟨by kernel_rfl, ?_⟩
  exact rfl
end Go.Proofs.YtefdahofpjmnfaaDoor
