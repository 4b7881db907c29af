/- The document's By tells what the code's tells. -/
import Derived.Test.YtkhnjmbgkakngaaGreatDoorH
set_option linter.unusedSimpArgs false
set_option linter.unusedVariables false
namespace Go.Proofs.YtkhnjmbgkakngaaGreatDoor
open Go Fp
set_option maxRecDepth 10000
set_option maxHeartbeats 4000000
set_option linter.unusedVariables false
set_option linter.unusedSimpArgs false

theorem rby_ok (cs : List Cl) (is : List In) (given : List PR) (hnd : (cs.map Cl.nm).Nodup) (hm : cs.length < 1000) (hsup : ∀ c ∈ cs, c.sup.length < 1000) (hi : is.length < 20000) (hy : ∀ y ∈ is, WIn y) (hg : given.length < 100000) (hgn : ∀ g ∈ given, nA g.ty ∧ g.ty.sz < 1000000) :
    ∀ (n : Nat) (x : PR), nA x.ty → x.ty.sz < 1000000 → x.ty.sz < n → ACall Tryz.prog n_fugueref12_By [eProg cs is, .sl (ePrs given), ePr x] (evR (byE cs.reverse is given n x)) := by
  intro n
  induction n with
  | zero => intro x _ _ h; omega
  | succ n ih =>
    intro x hx hxz hn
    have tail : byG cs.reverse x 0 given = none → Wsem Tryz.prog (sndC (sndC (bodyC Tryz.f10))) (mkC { vs := [(1, .v (.sl (ePrs given))), (3, .box 0 (eProg cs is)), (5, .box 0 (ePr x)), (6, .box 0 (eV zEv))] })
        (fun c => RetP tt Tryz.f10.results.toList (evR (byE cs.reverse is given (n + 1) x)) (den c)) (fun _ _ => False) (fun c => RetP tt Tryz.f10.results.toList (evR (byE cs.reverse is given (n + 1) x)) (den c)) := fun hG => by
      have hI := rneeds_ok cs is hi (fun y h => (hy y h).ok) x hxz
      refine Wsem.of ttok mixed ?_
      refine .inl ⟨_, hI, ?_⟩
      cases hE : instE is x with
      | none =>
        have e2 : evR (byE cs.reverse is given (n + 1) x) = .tup [eV zEv, .lit (.int .i64 33)] := by
          rw [byE, hG]; simp only [hE, evR]
        refine ⟨fun hbs => ?_, fun hbs => ?_⟩ <;> first | (exfalso; revert hbs; (simp); done) | skip
        rw [e2]
        exact rfl
      | some q =>
        obtain ⟨k, l⟩ := q
        obtain ⟨hl, hk, hkids⟩ := inst_kids hy hx hE
        refine ⟨fun hbs => ?_, fun hbs => ?_⟩ <;> first | (exfalso; revert hbs; (simp); done) | skip
        refine ⟨{p : Nat × List Ev // p.1 ≤ l.length ∧ p.2.length = p.1 ∧ kidsO (byE cs.reverse is given n) l = (kidsO (byE cs.reverse is given n) (l.drop p.1)).map (p.2 ++ ·)}, fun p => { vs := [(1, .v (.sl (ePrs given))), (3, .box 0 (eProg cs is)), (6, .box 0 (eV zEv)), (15, .v (.sl (ePrs l))), (17, .box 0 (eV (.mk 3 (k : Nat) p.1.2))), (18, sv (p.1.1 : Nat))], ow := [(17, 2, 4)] },
          fun p => l.length - p.1.1, ⟨(0, []), Nat.zero_le _, rfl, by simp⟩, ⟨⟨rfl, rfl, rfl, rfl, rfl, rfl, trivial⟩, ⟨trivial, trivial⟩, rfl⟩, ?_⟩
        rintro ⟨⟨j, ks⟩, hj, hkl, hinv⟩
        simp only at hj hkl hinv
        refine ⟨fun h => ?_, fun h => ?_⟩
        · have h : j < l.length := by have h : (j : Int) < ((ePrs l).length : Nat) := of_decide_eq_true h; simp [ePrs] at h; omega
          refine ⟨ePr l[j], by omega, getPr h, rfl, ?_⟩
          obtain ⟨q1, q2⟩ := hkids l[j] (List.getElem_mem h)
          refine .inl ⟨_, ih l[j] q1 (by omega) (by omega), ?_⟩
          rw [List.drop_eq_getElem_cons h, kidsO] at hinv
          cases hb : byE cs.reverse is given n l[j] with
          | none =>
            rw [hb] at hinv
            simp only [Option.map_none] at hinv
            have e2 : evR (byE cs.reverse is given (n + 1) x) = .tup [eV zEv, .lit (.int .i64 33)] := by
              rw [byE, hG]; simp only [hE, hinv, Option.map_none, evR]
            refine ⟨by kernel_rfl, ?_⟩
            refine ⟨fun hbs => ?_, fun hbs => ?_⟩ <;> first | (exfalso; revert hbs; (simp); done) | skip
            rw [e2]
            exact rfl
          | some v =>
            rw [hb] at hinv
            simp only at hinv
            refine ⟨by kernel_rfl, ?_⟩
            refine ⟨fun hbs => ?_, fun hbs => ?_⟩ <;> first | (exfalso; revert hbs; (simp); done) | skip
            refine ⟨by have := eEvs_len ks; show (eEvs ks).length + 1 ≤ 4294967296; omega, uniEv ks, uni1 rfl, ?_⟩
            refine ⟨⟨(j + 1, ks ++ [v]), by show j + 1 ≤ _; omega, by simp [hkl], ?_⟩, by show l.length - (j + 1) < l.length - j; omega, ⟨rfl, rfl, rfl, rfl, ?_, svc (wrap_succ (k := j) (by omega)), trivial⟩, ⟨rfl, trivial⟩, rfl⟩
            · rw [hinv]
              cases kidsO (byE cs.reverse is given n) (List.drop (j + 1) l) <;> simp
            · show SV.box 0 (.agg [_, _, .sl (eEvs ks ++ [eV v])]) = _
              rw [eEvs_snocV]; rfl
        · have h : j = l.length := by have h : ¬ (j : Int) < ((ePrs l).length : Nat) := of_decide_eq_false h; simp [ePrs] at h; omega
          subst h
          have e : kidsO (byE cs.reverse is given n) l = some ks := by rw [hinv, List.drop_length]; simp [kidsO]
          have e2 : evR (byE cs.reverse is given (n + 1) x) = .tup [eV (.mk 3 (k : Nat) ks), .lit (.int .i64 0)] := by
            rw [byE, hG]; simp only [hE, e, Option.map_some, evR]
          rw [e2]
          exact rfl
    have hsim : ∀ k (hk : k < given.length), pathB cs.reverse given[k].cls x.cls |>.2.length ≤ 1001 := fun k hk => Nat.le_trans (pathB_len cs.reverse _ _) (by simp; omega)
    refine acall_of_wsem ttok mixed Tryz.func10 rfl (by rfl) (Nat.le_of_ble_eq_true rfl) (by kernel_rfl) ?_
    refine Wsem.seq ttok mixed ?_
    refine Wsem.seq ttok mixed ?_
    refine ⟨{k : Nat // k ≤ given.length ∧ byG cs.reverse x 0 given = byG cs.reverse x k (given.drop k)}, fun k => { vs := [(1, .v (.sl (ePrs given))), (3, .box 0 (eProg cs is)), (5, .box 0 (ePr x)), (6, .box 0 (eV zEv)), (8, sv (k.1 : Nat))] },
      fun k => given.length - k.1, ⟨0, Nat.zero_le _, rfl⟩, ⟨⟨rfl, rfl, rfl, rfl, rfl, trivial⟩, trivial, rfl⟩, ?_⟩
    rintro ⟨k, hk, hinv⟩
    refine ⟨fun h => ?_, fun h => ?_⟩
    · have h : k < given.length := by have h : (k : Int) < ((ePrs given).length : Nat) := of_decide_eq_true h; simp [ePrs] at h; omega
      rw [List.drop_eq_getElem_cons h, byG] at hinv
      refine ⟨ePr given[k], by omega, getPr h, rfl, ?_⟩
      have hPath := rPath_ok cs is hnd hm hsup given[k].cls x.cls
      have hlen := hsim k h
      revert hPath hlen hinv
      generalize pathB cs.reverse given[k].cls x.cls = pb
      obtain ⟨b, way⟩ := pb
      intro hinv hPath hlen
      simp only at hinv hlen
      refine .inl ⟨_, hPath, ?_⟩
      refine ⟨by kernel_rfl, ?_⟩
      refine ⟨ePr given[k], by omega, getPr h, rfl, ?_⟩
      refine .inl ⟨_, equal_ok given[k].ty x.ty, ?_⟩
      refine ⟨by kernel_rfl, ?_⟩
      have hr : given.length - (k + 1) < given.length - k := by omega
      cases b with
      | false =>
        refine ⟨fun hbs => ?_, fun hbs => ?_⟩ <;> first | (exfalso; revert hbs; (simp); done) | skip
        refine ⟨⟨k + 1, h, by rw [hinv]; simp⟩, hr, ⟨rfl, rfl, rfl, rfl, svc (wrap_succ (k := k) (by omega)), trivial⟩, trivial, rfl⟩
      | true =>
        refine ⟨fun hbs => ?_, fun hbs => ?_⟩ <;> first | (exfalso; revert hbs; (simp); done) | skip
        by_cases ht : given[k].ty = x.ty
        · have hinv2 : byG cs.reverse x 0 given = some (wrapV (.mk 1 (k : Nat) []) way) := by rw [hinv]; simp [ht]
          have e2 : evR (byE cs.reverse is given (n + 1) x) = .tup [eV (wrapV (.mk 1 (k : Nat) []) way), .lit (.int .i64 0)] := by
            rw [byE, hinv2]; rfl
          rw [e2]
          refine ⟨fun hbs => ?_, fun hbs => ?_⟩ <;> first | (exfalso; revert hbs; (simp [ht]); done) | skip
          refine ⟨{j : Nat // j ≤ way.length}, fun j => { vs := [(6, .box 0 (eV zEv)), (9, .v (.sl (eIs way))), (12, .box 0 (eV (wrapV (.mk 1 (k : Nat) []) (way.take j.1)))), (13, sv (j.1 : Nat))] },
            fun j => way.length - j.1, ⟨0, Nat.zero_le _⟩, ⟨⟨rfl, rfl, rfl, rfl, trivial⟩, trivial, rfl⟩, ?_⟩
          rintro ⟨j, hj⟩
          refine ⟨fun h2 => ?_, fun h2 => ?_⟩
          · have h2 : j < way.length := by have h : (j : Int) < ((eIs way).length : Nat) := of_decide_eq_true h2; simp [eIs] at h; omega
            refine ⟨_, by omega, getIs h2, rfl, ?_⟩
            refine ⟨by kernel_rfl, ?_⟩
            refine ⟨⟨j + 1, h2⟩, (show way.length - (j + 1) < way.length - j by omega), ⟨rfl, rfl, ?_, svc (wrap_succ (k := j) (by omega)), trivial⟩, trivial, rfl⟩
            show SV.box 0 (.agg [_, .lit (.int .i64 way[j]), .sl [eV (wrapV _ (way.take j))]]) = _
            simp only [wrapV_snoc _ _ h2]
            rw [eV_eq (wrapV _ (way.take j))]
            rfl
          · have h2 : j = way.length := by have h : ¬ (j : Int) < ((eIs way).length : Nat) := of_decide_eq_false h2; simp [eIs] at h; omega
            subst h2
            rw [List.take_length]
            exact rfl
        · refine ⟨fun hbs => ?_, fun hbs => ?_⟩ <;> first | (exfalso; revert hbs; (simp [ht]); done) | skip
          refine ⟨⟨k + 1, h, by rw [hinv]; simp [ht]⟩, hr, ⟨rfl, rfl, rfl, rfl, svc (wrap_succ (k := k) (by omega)), trivial⟩, trivial, rfl⟩
    · have h : k = given.length := by have h : ¬ (k : Int) < ((ePrs given).length : Nat) := of_decide_eq_false h; simp [ePrs] at h; omega
      subst h
      refine Wsem.cut _ ?_ (tail (by rw [hinv, List.drop_length, byG]))
      exact ⟨⟨rfl, rfl, rfl, rfl, trivial⟩, trivial, rfl⟩
end Go.Proofs.YtkhnjmbgkakngaaGreatDoor

namespace Go.Proofs.YtkhnjmbgkakngaaGreatDoor
open Go Fp
set_option maxRecDepth 10000
set_option maxHeartbeats 4000000
set_option linter.unusedVariables false
set_option linter.unusedSimpArgs false

/-- Elements, one behind the other, with a comma and a space between. -/
def cma : ByteArray := ⟨#[44, 32]⟩
def jnL (l : List (List UInt8)) : List UInt8 := ([44, 32] : List UInt8).intercalate l
def jn (l : List ByteArray) : ByteArray := ⟨(jnL (l.map (·.data.toList))).toArray⟩
theorem ba_ext {a b : ByteArray} (h : a.data.toList = b.data.toList) : a = b := by
  cases a; cases b; simp only at h; congr; exact Array.toList_inj.1 h
theorem jn_nil : jn [] = ⟨#[]⟩ := rfl
theorem jn_one (x : ByteArray) : jn [x] = x := ba_ext (by simp [jn, jnL, List.intercalate])
theorem jnL_snoc (l : List (List UInt8)) (y x : List UInt8) : jnL ((l ++ [y]) ++ [x]) = jnL (l ++ [y]) ++ [44, 32] ++ x := by
  unfold jnL
  induction l with
  | nil => simp [List.intercalate]
  | cons a r ih =>
    cases r with
    | nil => simp [List.intercalate] 
    | cons b r =>
      simp only [List.cons_append, List.intercalate, List.intersperse, List.flatten_cons] at ih ⊢
      have e : r ++ [y] ++ [x] = r ++ [y, x] := by simp
      rw [e] at ih
      rw [show r ++ [y] ++ [x] = r ++ [y, x] from e]
      simp only [List.append_assoc, List.nil_append, List.cons_append] at ih ⊢
      rw [ih]
theorem jn_snoc {l : List ByteArray} (hl : l ≠ []) (x : ByteArray) : jn (l ++ [x]) = jn l ++ cma ++ x := by
  refine ba_ext ?_
  obtain ⟨r, y, rfl⟩ : ∃ r y, l = r ++ [y] := ⟨l.dropLast, l.getLast hl, (List.dropLast_concat_getLast hl).symm⟩
  have := jnL_snoc (r.map (·.data.toList)) y.data.toList x.data.toList
  simp only [jn, List.map_append, List.map_cons, List.map_nil, this, ByteArray.data_append, Array.toList_append, cma]

noncomputable def prE (v : Ev) : ByteArray := Ev.rec (motive_1 := fun _ => ByteArray) (motive_2 := fun _ => List ByteArray) (fun f n _ ih => if f = 1 then ⟨#[103]⟩ ++ dcm n.toNat else (if f = 2 then ⟨#[115]⟩ else ⟨#[105]⟩) ++ dcm n.toNat ++ ⟨#[40]⟩ ++ jn ih ++ ⟨#[41]⟩) [] (fun _ _ h t => h :: t) v
noncomputable def prEs (l : List Ev) : List ByteArray := Ev.rec_1 (motive_1 := fun _ => ByteArray) (motive_2 := fun _ => List ByteArray) (fun f n _ ih => if f = 1 then ⟨#[103]⟩ ++ dcm n.toNat else (if f = 2 then ⟨#[115]⟩ else ⟨#[105]⟩) ++ dcm n.toNat ++ ⟨#[40]⟩ ++ jn ih ++ ⟨#[41]⟩) [] (fun _ _ h t => h :: t) l
theorem prEs_map (l : List Ev) : prEs l = l.map prE := by
  induction l with
  | nil => rfl
  | cons v r ih => rw [List.map_cons, ← ih]; rfl
theorem prE_mk (f n : Int) (ks : List Ev) : prE (.mk f n ks) = if f = 1 then ⟨#[103]⟩ ++ dcm n.toNat else (if f = 2 then ⟨#[115]⟩ else ⟨#[105]⟩) ++ dcm n.toNat ++ ⟨#[40]⟩ ++ jn (ks.map prE) ++ ⟨#[41]⟩ := by
  rw [← prEs_map]; rfl
inductive EvOk : Ev → Prop
  | mk {f : Int} {n : Nat} {ks : List Ev} : n < 100 → ks.length < 100000 → (jn (ks.map prE)).size < 1000000000 → (∀ k ∈ ks, EvOk k) → EvOk (.mk f (n : Nat) ks)

theorem getEv {l : List Ev} {k : Nat} (h : k < l.length) : (eEvs l)[k]? = some (eV l[k]) := by simp [eEvs_map, h, eV_eq]
theorem rsame_ok {v : Ev} (h : EvOk v) : ACall Tryz.prog n_fugueref12_Equal [eV v, eV v] (.sb true) := by
  induction h with
  | @mk f n ks hn hl hj hk ih =>
    refine acall_of_wcx ttok mixed Tryz.func11 rfl (by rfl) (Nat.le_of_ble_eq_true rfl) (by kernel_rfl) ?_
    refine ⟨fun hbs => ?_, fun hbs => ?_⟩ <;> first | (exfalso; revert hbs; (simp); done) | skip
    refine ⟨fun hbs => ?_, fun hbs => ?_⟩ <;> first | (exfalso; revert hbs; (simp); done) | skip
    refine ⟨fun hbs => ?_, fun hbs => ?_⟩ <;> first | (exfalso; revert hbs; (simp); done) | skip
    refine ⟨{k : Nat // k ≤ ks.length}, fun k => { vs := [(2, .box 0 (eV (.mk f (n : Nat) ks))), (3, .box 0 (eV (.mk f (n : Nat) ks))), (5, sv (k.1 : Nat))] },
      fun k => ks.length - k.1, ⟨0, Nat.zero_le _⟩, ⟨⟨rfl, rfl, rfl, trivial⟩, trivial, rfl⟩, ?_⟩
    rintro ⟨k, hkl⟩
    refine ⟨fun h => ?_, fun h => ?_⟩
    · have h : k < ks.length := by have h : (k : Int) < ((eEvs ks).length : Nat) := of_decide_eq_true h; rw [eEvs_len] at h; omega
      refine ⟨_, by omega, getEv h, rfl, ?_⟩
      refine ⟨_, by omega, getEv h, rfl, ?_⟩
      refine .inl ⟨_, ih _ (List.getElem_mem h), ?_⟩
      refine ⟨by kernel_rfl, ?_⟩
      refine ⟨fun hbs => ?_, fun hbs => ?_⟩ <;> first | (exfalso; revert hbs; (simp); done) | skip
      exact ⟨⟨k + 1, h⟩, (show ks.length - (k + 1) < ks.length - k by omega), ⟨rfl, rfl, svc (wrap_succ (k := k) (by omega)), trivial⟩, trivial, rfl⟩
    · exact rfl

/-- What stands ahead of the kids. -/
noncomputable def hdE (f : Int) (n : Nat) : ByteArray := (if f = 2 then ⟨#[115]⟩ else ⟨#[105]⟩) ++ dcm n ++ ⟨#[40]⟩
theorem dcm_sz2 {n : Nat} (h : n < 100) : (dcm n).size ≤ 2 := dcm_size 2 n (by omega) (by decide)
theorem hdE_size {f : Int} {n : Nat} (h : n < 100) : (hdE f n).size ≤ 4 := by
  have := dcm_sz2 h
  unfold hdE
  split <;> simp only [ByteArray.size_append] <;> show 1 + (dcm n).size + 1 ≤ 4 <;> omega
theorem jn_take {l : List Ev} {k : Nat} (h : k < l.length) (h0 : 0 < k) : jn ((l.take (k + 1)).map prE) = jn ((l.take k).map prE) ++ cma ++ prE l[k] := by
  rw [List.take_succ_eq_append_getElem h, List.map_append]
  exact jn_snoc (by cases l <;> simp at h ⊢; omega) _
theorem jn_le {l : List ByteArray} {x : ByteArray} : (jn l).size ≤ (jn (l ++ [x])).size ∧ x.size ≤ (jn (l ++ [x])).size := by
  by_cases hl : l = []
  · subst hl; rw [List.nil_append, jn_one]; exact ⟨Nat.zero_le _, Nat.le_refl _⟩
  · rw [jn_snoc hl]; simp only [ByteArray.size_append]; omega
theorem jn_pre (l : List ByteArray) : ∀ k, (jn (l.take k)).size ≤ (jn l).size := by
  have go : ∀ d k, k + d = l.length → (jn (l.take k)).size ≤ (jn l).size := fun d => by
    induction d with
    | zero => intro k h; rw [List.take_of_length_le (by omega)]; exact Nat.le_refl _
    | succ d ih =>
      intro k h
      refine Nat.le_trans ?_ (ih (k + 1) (by omega))
      rw [List.take_succ_eq_append_getElem (by omega)]
      exact jn_le.1
  intro k
  by_cases h : k ≤ l.length
  · exact go (l.length - k) k (by omega)
  · rw [List.take_of_length_le (by omega)]; exact Nat.le_refl _
theorem jn_mem {l : List ByteArray} {k : Nat} (h : k < l.length) : l[k].size ≤ (jn l).size := by
  refine Nat.le_trans ?_ (jn_pre l (k + 1))
  rw [List.take_succ_eq_append_getElem h]
  exact jn_le.2
theorem rprint_ok {v : Ev} (h : EvOk v) : ACall Tryz.prog n_fugueref12_Print [eV v] (.lit (.string (prE v))) := by
  induction h with
  | @mk f n ks hn hl hj hk ih =>
    rw [prE_mk, Int.toNat_natCast]
    have hd2 := dcm_sz2 hn
    have hh := hdE_size (f := f) hn
    by_cases h1 : f = 1
    · refine acall_of_wcx ttok mixed Tryz.func13 rfl (by rfl) (Nat.le_of_ble_eq_true rfl) (by kernel_rfl) ?_
      refine .inl ⟨_, decimal_ok n n (Nat.le_refl _) (by omega), ?_⟩
      refine ⟨fun hbs => ?_, fun hbs => ?_⟩ <;> first | (exfalso; revert hbs; (simp [fE, h1]); done) | skip
      rw [if_pos h1]
      refine ⟨by show 1 + (dcm n).size ≤ _; omega, ?_⟩
      exact rfl
    · rw [if_neg h1]
      have e0 : (if f = 2 then (⟨#[115]⟩ : ByteArray) else ⟨#[105]⟩) ++ dcm n ++ ⟨#[40]⟩ = hdE f n := rfl
      rw [e0]
      have tail : Wsem Tryz.prog (sndC (sndC (sndC (sndC (sndC (bodyC Tryz.f13)))))) (mkC { vs := [(1, .box 0 (eV (.mk f (n : Nat) ks))), (4, .v (.lit (.string (hdE f n))))] })
          (fun c => RetP tt Tryz.f13.results.toList (.lit (.string (hdE f n ++ jn (ks.map prE) ++ ⟨#[41]⟩))) (den c)) (fun _ _ => False) (fun c => RetP tt Tryz.f13.results.toList (.lit (.string (hdE f n ++ jn (ks.map prE) ++ ⟨#[41]⟩))) (den c)) := by
        refine Wsem.of ttok mixed ?_
        refine ⟨{k : Nat // k ≤ ks.length}, fun k => { vs := [(1, .box 0 (eV (.mk f (n : Nat) ks))), (4, .v (.lit (.string (hdE f n ++ jn ((ks.take k.1).map prE))))), (5, sv (k.1 : Nat))] },
          fun k => ks.length - k.1, ⟨0, Nat.zero_le _⟩, ⟨⟨rfl, by show SV.v (.lit (.string (hdE f n))) = SV.v (.lit (.string (hdE f n ++ ByteArray.empty))); rw [ByteArray.append_empty], rfl, trivial⟩, trivial, rfl⟩, ?_⟩
        rintro ⟨k, hkl⟩
        have hp1 : (jn ((ks.take k).map prE)).size < 1000000000 := by rw [List.map_take]; exact Nat.lt_of_le_of_lt (jn_pre _ k) hj
        refine ⟨fun h => ?_, fun h => ?_⟩
        · have h : k < ks.length := by have h : (k : Int) < ((eEvs ks).length : Nat) := of_decide_eq_true h; rw [eEvs_len] at h; omega
          have hp2 : (prE ks[k]).size < 1000000000 := by
            have := jn_mem (l := ks.map prE) (k := k) (by simpa using h)
            simp only [List.getElem_map] at this; omega
          by_cases h0 : k = 0
          · subst h0
            refine ⟨fun hbs => ?_, fun hbs => ?_⟩ <;> first | (exfalso; revert hbs; (simp); done) | skip
            refine ⟨_, by omega, getEv h, rfl, ?_⟩
            refine .inl ⟨_, ih _ (List.getElem_mem h), ?_⟩
            refine ⟨by show (hdE f n ++ jn []).size + (prE ks[0]).size ≤ 4611686018427387904; rw [ByteArray.size_append]; simp only [jn_nil]; show (hdE f n).size + 0 + _ ≤ _; omega, ?_⟩
            refine ⟨⟨0 + 1, h⟩, (show ks.length - (0 + 1) < ks.length - 0 by omega), ⟨rfl, ?_, svc (wrap_succ (k := 0) (by omega)), trivial⟩, trivial, rfl⟩
            show SV.v (.lit (.string (hdE f n ++ jn [] ++ prE ks[0]))) = SV.v (.lit (.string (hdE f n ++ jn ((ks.take (0 + 1)).map prE))))
            rw [List.take_succ_eq_append_getElem h, List.take_zero, List.nil_append, List.map_cons, List.map_nil, jn_one, jn_nil, show (⟨#[]⟩ : ByteArray) = ByteArray.empty from rfl, ByteArray.append_empty]
          · refine ⟨fun hbs => ?_, fun hbs => ?_⟩ <;> first | (exfalso; revert hbs; (simp; omega); done) | skip
            refine ⟨by show (hdE f n ++ jn ((ks.take k).map prE)).size + 2 ≤ 4611686018427387904; rw [ByteArray.size_append]; omega, ?_⟩
            refine ⟨_, by omega, getEv h, rfl, ?_⟩
            refine .inl ⟨_, ih _ (List.getElem_mem h), ?_⟩
            refine ⟨by show (hdE f n ++ jn ((ks.take k).map prE) ++ cma).size + (prE ks[k]).size ≤ 4611686018427387904; rw [ByteArray.size_append, ByteArray.size_append]; show _ + _ + 2 + _ ≤ _; omega, ?_⟩
            refine ⟨⟨k + 1, h⟩, (show ks.length - (k + 1) < ks.length - k by omega), ⟨rfl, ?_, svc (wrap_succ (k := k) (by omega)), trivial⟩, trivial, rfl⟩
            show SV.v (.lit (.string (hdE f n ++ jn ((ks.take k).map prE) ++ cma ++ prE ks[k]))) = SV.v (.lit (.string (hdE f n ++ jn ((ks.take (k + 1)).map prE))))
            rw [jn_take h (by omega), ByteArray.append_assoc, ByteArray.append_assoc, ByteArray.append_assoc]
        · have h : k = ks.length := by have h : ¬ (k : Int) < ((eEvs ks).length : Nat) := of_decide_eq_false h; rw [eEvs_len] at h; omega
          subst h
          rw [List.take_length] at hp1
          show _ ∧ _
          refine ⟨by show (hdE f n ++ jn ((ks.take ks.length).map prE)).size + 1 ≤ 4611686018427387904; rw [List.take_length, ByteArray.size_append]; omega, ?_⟩
          show AV.lit (.string (hdE f n ++ jn ((ks.take ks.length).map prE) ++ ⟨#[41]⟩)) = _
          rw [List.take_length]
      refine acall_of_wsem ttok mixed Tryz.func13 rfl (by rfl) (Nat.le_of_ble_eq_true rfl) (by kernel_rfl) ?_
      refine Wsem.seq ttok mixed ?_
      refine Wsem.seq ttok mixed ?_
      refine .inl ⟨_, decimal_ok n n (Nat.le_refl _) (by omega), ?_⟩
      refine Wsem.seq ttok mixed ?_
      refine ⟨fun hbs => ?_, fun hbs => ?_⟩ <;> first | (exfalso; revert hbs; (simp [fE, h1]); done) | skip
      refine Wsem.seq ttok mixed ?_
      refine ⟨by show 1 + (dcm n).size ≤ _; omega, ?_⟩
      refine ⟨by rw [ByteArray.size_append]; show 1 + (dcm n).size + 1 ≤ 4611686018427387904; omega, ?_⟩
      refine Wsem.seq ttok mixed ?_
      by_cases h2 : f = 2
      · refine ⟨fun hbs => ?_, fun hbs => ?_⟩ <;> first | (exfalso; revert hbs; (simp [fE, h2]); done) | skip
        refine ⟨by show 1 + (dcm n).size ≤ _; omega, ?_⟩
        refine ⟨by rw [ByteArray.size_append]; show 1 + (dcm n).size + 1 ≤ 4611686018427387904; omega, ?_⟩
        refine Wsem.cut _ ?_ tail
        exact ⟨⟨rfl, by unfold hdE; rw [if_pos h2]; rfl, trivial⟩, trivial, rfl⟩
      · refine ⟨fun hbs => ?_, fun hbs => ?_⟩ <;> first | (exfalso; revert hbs; (simp [fE, h2]); done) | skip
        refine Wsem.cut _ ?_ tail
        exact ⟨⟨rfl, by unfold hdE; rw [if_neg h2]; rfl, trivial⟩, trivial, rfl⟩
end Go.Proofs.YtkhnjmbgkakngaaGreatDoor
