/- What compiled cases come to. No condition. -/
import Derived.Test.YtefdahofpjmnfaaDoorI
import Derived.Test.YtefdahofpjmnfaaDoorC
set_option linter.unusedSimpArgs false
set_option linter.unusedVariables false
namespace Go.Proofs.YtefdahofpjmnfaaDoor
open Go Fp
set_option maxRecDepth 10000
set_option maxHeartbeats 16000000
set_option linter.unusedVariables false

/-- Does an alternative take a value? -/
def hitA (h : Hd) (x : Vl) : Bool := decide (h.1 = 3) || ((decide (h.1 = 2) && decide (x.f = 2) && decide (x.n = h.2.1)) || (decide (h.1 = 1) && decide (x.f = 1) && decide (x.s = h.2.2.1) && decide (x.k.length = h.2.2.2.length)))
def letE (env : List Nv) (bs : List Bd) : List Nv := bs.foldl (fun e q => e ++ [(q.1, lookE e q.2.2)]) env
mutual
def runs : Cr → List Nv → Int × List Nv
  | .fail, env => (-1, env)
  | .leaf bs n, env => (n, letE env bs)
  | .cas v hs ks, env => runsL (lookE env v) hs ks env
def runsL (x : Vl) : List Hd → List Cr → List Nv → Int × List Nv
  | h :: hs, k :: ks, env => if hitA h x = true then runs k (env ++ h.2.2.2.zip x.k) else runsL x hs ks env
  | _, _, env => (-1, env)
end
def runT (r : Int × List Nv) : AV := .tup [.lit (.int .i64 r.1), .sl (eOfs r.2)]

theorem runs_int (to : Tp) (n : Int) (env : List Nv) : ACall Tryd.prog n_fugueref20_Runs [eCi n, .sl (eOfs env)] (runT (n, env)) := by
  refine acall_of_wcx ttok mixed Tryd.func17 rfl (by rfl) (Nat.le_of_ble_eq_true rfl) (by kernel_rfl) ?_
  refine ⟨fun _ => ?_, fun h => absurd h (by decide)⟩
  exact rfl
theorem runs_fail (to : Tp) (env : List Nv) : ACall Tryd.prog n_fugueref20_Runs [eCr to .fail, .sl (eOfs env)] (runT (runs .fail env)) := by
  refine acall_of_wcx ttok mixed Tryd.func17 rfl (by rfl) (Nat.le_of_ble_eq_true rfl) (by kernel_rfl) ?_
  refine ⟨fun h => absurd h (by decide), fun _ => ?_⟩
  refine ⟨fun h => absurd h (by decide), fun _ => ?_⟩
  refine ⟨fun h => absurd h (by decide), fun _ => ?_⟩
  rw [runs]
  exact rfl
theorem letE_snoc (env : List Nv) (bs : List Bd) (q : Bd) : letE env (bs ++ [q]) = letE env bs ++ [(q.1, lookE (letE env bs) q.2.2)] := by
  unfold letE; rw [List.foldl_append]; rfl
theorem letE_len : ∀ (bs : List Bd) (env : List Nv), (letE env bs).length = env.length + bs.length
  | [], env => rfl
  | q :: bs, env => by show (letE (env ++ [_]) bs).length = _; rw [letE_len bs]; simp; omega
theorem runs_let (to : Tp) (b : Bd) (bs : List Bd) (n : Int) (env : List Nv) (hb : (b :: bs).length < 20000) (he : env.length < 20000) : ACall Tryd.prog n_fugueref20_Runs [eCr to (.leaf (b :: bs) n), .sl (eOfs env)] (runT (runs (.leaf (b :: bs) n) env)) := by
  have hI := fun env => runs_int to n env
  rw [runs]
  generalize hB : b :: bs = B at *
  have hne : B ≠ [] := by rw [← hB]; simp
  have heB : eCr to (.leaf B n) = .agg [.lit (.int .i64 8), .lit (.int .i64 0), .lit (.string .empty), .lit (.int .i64 0), .lit (.int .i64 0), .lit (.string .empty), .sl [], .sl [eCi n], .sl (eLs B), .sl []] := by
    rw [← hB]; simp only [eCr, Cr.f, Cr.n, Cr.t, Cr.kids, Cr.binds, Cr.alts]; rfl
  rw [heB]
  refine acall_of_wcx ttok mixed Tryd.func17 rfl (by rfl) (Nat.le_of_ble_eq_true rfl) (by kernel_rfl) ?_
  refine ⟨fun h => absurd h (by decide), fun _ => ?_⟩
  refine ⟨fun _ => ?_, fun h => absurd h (by decide)⟩
  refine ⟨{k : Nat // k ≤ B.length}, fun k => { vs := [(1, .v (.sl (eOfs (letE env (B.take k.1))))), (2, .box 0 (.agg [.lit (.int .i64 8), .lit (.int .i64 0), .lit (.string .empty), .lit (.int .i64 0), .lit (.int .i64 0), .lit (.string .empty), .sl [], .sl [eCi n], .sl (eLs B), .sl []])), (6, sv (k.1 : Nat))] },
    fun k => B.length - k.1, ⟨0, Nat.zero_le _⟩, ⟨⟨rfl, rfl, rfl, trivial⟩, trivial, rfl⟩, ?_⟩
  rintro ⟨k, hk⟩
  refine ⟨fun h => ?_, fun h => ?_⟩
  · have h : k < B.length := by have h := of_decide_eq_true h; simp [eLs] at h; omega
    have hg : (eLs B)[k]? = some (eL B[k]) := getM h
    have hll := letE_len (B.take k) env
    have hlk := look_ok (letE env (B.take k)) B[k].2.2 (by rw [hll, List.length_take]; omega)
    have hst : letE env (B.take (k + 1)) = letE env (B.take k) ++ [(B[k].1, lookE (letE env (B.take k)) B[k].2.2)] := by
      rw [List.take_succ_eq_append_getElem h, letE_snoc]
    refine ⟨by rw [lenOf, hll, List.length_take]; simp; omega, uni0 _, uniOf _, ?_⟩
    refine ⟨_, by omega, hg, rfl, ?_⟩
    refine ⟨_, by omega, hg, rfl, ?_⟩
    refine .inl ⟨_, hlk, ?_⟩
    refine ⟨by simp only [List.nil_append]; rw [lenOf, hll, List.length_take]; simp; omega, fun a ha => uniOf _ a (by simpa using ha), uni1 rfl, ?_⟩
    refine ⟨by kernel_rfl, ?_⟩
    refine ⟨⟨k + 1, h⟩, by simp; omega, ⟨?_, rfl, svc (wrap_succ (k := k) (by omega)), trivial⟩, trivial, rfl⟩
    show SV.v (AV.sl ([] ++ eOfs (letE env (B.take k)) ++ [eOf (B[k].1, lookE (letE env (B.take k)) B[k].2.2)])) = SV.v (AV.sl (eOfs (letE env (B.take (k + 1)))))
    rw [hst]; simp [eOfs]
  · have h : k = B.length := by have h := of_decide_eq_false h; simp [eLs] at h; omega
    subst h
    have hJ := hI (letE env (B.take B.length))
    refine ⟨_, by omega, rfl, rfl, ?_⟩
    refine .inl ⟨_, hJ, ?_⟩
    rw [List.take_length]
    exact rfl
end Go.Proofs.YtefdahofpjmnfaaDoor

namespace Go.Proofs.YtefdahofpjmnfaaDoor
open Go Fp
set_option maxRecDepth 10000
set_option maxHeartbeats 16000000
set_option linter.unusedVariables false

theorem altsL_get (to : Tp) : ∀ (hs : List Hd) (ks : List Cr) (k : Nat) (h : Hd) (c : Cr), hs[k]? = some h → ks[k]? = some c → (Cr.altsL to hs ks)[k]? = some (eAlt to h c)
  | [], _, k, h, c, h1, _ => by simp at h1
  | _ :: _, [], k, h, c, _, h2 => by simp at h2
  | a :: hs, d :: ks, 0, h, c, h1, h2 => by simp at h1 h2; subst h1; subst h2; rw [altsL_cons]; rfl
  | a :: hs, d :: ks, k + 1, h, c, h1, h2 => by rw [altsL_cons]; simpa using altsL_get to hs ks k h c (by simpa using h1) (by simpa using h2)
theorem altsL_len (to : Tp) : ∀ (hs : List Hd) (ks : List Cr), hs.length = ks.length → (Cr.altsL to hs ks).length = hs.length
  | [], [], _ => by rw [altsL_nil]; rfl
  | a :: hs, d :: ks, h => by rw [altsL_cons, List.length_cons, altsL_len to hs ks (by simpa using h)]; rfl
  | [], _ :: _, h => by simp at h
  | _ :: _, [], h => by simp at h
theorem runsL_drop (x : Vl) (env : List Nv) : ∀ (k : Nat) (hs : List Hd) (ks : List Cr), hs.length = ks.length → (∀ j h, j < k → hs[j]? = some h → hitA h x = false) → runsL x hs ks env = runsL x (hs.drop k) (ks.drop k) env
  | 0, hs, ks, _, _ => rfl
  | k + 1, [], [], _, _ => rfl
  | k + 1, [], _ :: _, h, _ => by simp at h
  | k + 1, _ :: _, [], h, _ => by simp at h
  | k + 1, a :: hs, d :: ks, h, hj => by
    rw [runsL, if_neg (by rw [hj 0 a (by omega) rfl]; simp)]
    exact runsL_drop x env k hs ks (by simpa using h) (fun j q hjk hq => hj (j + 1) q (by omega) (by simpa using hq))
theorem Vl.kids_len (x : Vl) : x.eKids.length = x.k.length := by rw [x.eKids_eq, lenV]

theorem runs_cas (to : Tp) (v : ByteArray) (hs : List Hd) (ks : List Cr) (env : List Nv) (hlen : hs.length = ks.length) (hs1 : hs.length < 20000) (hv2 : ∀ h ∈ hs, h.2.2.2.length ≤ 2 ∧ (h.1 = 1 ∨ h.2.2.2 = [])) (he : env.length + 2 < 20000)
    (hK : ∀ c ∈ ks, ∀ env' : List Nv, env'.length ≤ env.length + 2 → ACall Tryd.prog n_fugueref20_Runs [eCr to c, .sl (eOfs env')] (runT (runs c env'))) :
    ACall Tryd.prog n_fugueref20_Runs [eCr to (.cas v hs ks), .sl (eOfs env)] (runT (runs (.cas v hs ks) env)) := by
  have hL := look_ok env v (by omega)
  rw [runs, eCr_cas]
  generalize lookE env v = x at *
  have hal := altsL_len to hs ks hlen
  have hxl := Vl.kids_len x
  refine acall_of_wcx ttok mixed Tryd.func17 rfl (by rfl) (Nat.le_of_ble_eq_true rfl) (by kernel_rfl) ?_
  refine ⟨fun h => absurd h (by decide), fun _ => ?_⟩
  refine ⟨fun h => absurd h (by decide), fun _ => ?_⟩
  refine ⟨fun _ => ?_, fun h => absurd h (by decide)⟩
  refine ⟨_, by omega, rfl, rfl, ?_⟩
  refine .inl ⟨_, hL, ?_⟩
  refine ⟨{k : Nat // k ≤ hs.length ∧ ∀ j h, j < k → hs[j]? = some h → hitA h x = false}, fun k => { vs := [(1, .v (.sl (eOfs env))), (2, .box 0 (cC to v (Cr.altsL to hs ks))), (9, .box 0 (eVl x)), (10, sv (k.1 : Nat))] },
    fun k => hs.length - k.1, ⟨0, Nat.zero_le _, fun j h hj => by omega⟩, ⟨⟨rfl, rfl, rfl, rfl, trivial⟩, trivial, rfl⟩, ?_⟩
  rintro ⟨k, hk, hinv⟩
  refine ⟨fun h => ?_, fun h => ?_⟩
  · have h : k < hs.length := by have h := of_decide_eq_true h; rw [hal] at h; simp only at h; omega
    obtain ⟨c, hc⟩ : ∃ c, ks[k]? = some c := ⟨_, List.getElem?_eq_getElem (by omega)⟩
    have hg := altsL_get to hs ks k hs[k] c (List.getElem?_eq_getElem h) hc
    refine ⟨_, by omega, hg, rfl, ?_⟩
    have hm := List.getElem_mem h
    have hgh : hs[k]? = some hs[k] := List.getElem?_eq_getElem h
    generalize hs[k] = q at *
    have hq := hv2 q hm
    have hKc := hK c (List.mem_of_getElem? hc)
    have hdr : hs.drop k = q :: hs.drop (k + 1) := by rw [List.drop_eq_getElem_cons h]; congr 1; rw [List.getElem?_eq_getElem h] at hgh; injection hgh
    have hdk : ks.drop k = c :: ks.drop (k + 1) := by rw [List.drop_eq_getElem_cons (by omega)]; congr 1; rw [List.getElem?_eq_getElem (by omega)] at hc; injection hc
    have hall := runsL_drop x env k hs ks hlen hinv
    rw [hdr, hdk, runsL] at hall
    by_cases a3 : q.1 = 3
    · have hh : hitA q x = true := by simp [hitA, a3]
      have hres := hall
      rw [if_pos hh] at hres
      have hxk : q.2.2.2.length ≤ x.k.length := by
        rcases hq.2 with h1 | h1
        · omega
        · rw [h1]; simp
      refine ⟨fun hbs => ?_, fun hbs => ?_⟩ <;> first | (exfalso; revert hbs; (simp [a3]); done) | skip
      refine ⟨by rw [lenOf]; simp; omega, uni0 _, uniOf _, ?_⟩
      refine ⟨{j : Nat // j ≤ q.2.2.2.length}, fun j => { vs := [(9, .box 0 (eVl x)), (11, .box 0 (eAlt to q c)), (12, .v (.sl (eOfs (env ++ (q.2.2.2.zip x.k).take j.1)))), (13, sv (j.1 : Nat))], ow := [(12, 0, 6)] },
        fun j => q.2.2.2.length - j.1, ⟨0, Nat.zero_le _⟩, ⟨⟨rfl, rfl, ?_, rfl, trivial⟩, ⟨rfl, trivial⟩, rfl⟩, ?_⟩
      · show SV.v (AV.sl ([] ++ eOfs env)) = SV.v (AV.sl (eOfs (env ++ [])))
        rw [List.append_nil]; rfl
      rintro ⟨j, hj⟩
      refine ⟨fun h3 => ?_, fun h3 => ?_⟩
      · have h3 : j < q.2.2.2.length := by have h3 := of_decide_eq_true h3; rw [lenS] at h3; simp only at h3; omega
        have hjx : j < x.k.length := by omega
        have hg1 := getS h3
        have hg2 := getV hjx
        have hz : (q.2.2.2.zip x.k).take (j + 1) = (q.2.2.2.zip x.k).take j ++ [(q.2.2.2[j], x.k[j])] := by
          rw [List.take_succ_eq_append_getElem (by rw [List.length_zip]; omega), List.getElem_zip]
        rw [← x.eKids_eq] at hg2
        refine ⟨_, by omega, hg1, rfl, ?_⟩
        refine ⟨_, by omega, hg2, rfl, ?_⟩
        refine ⟨by rw [lenOf, List.length_append, List.length_take]; simp; omega, uniOf _, uni1 rfl, ?_⟩
        refine ⟨by kernel_rfl, ?_⟩
        refine ⟨⟨j + 1, h3⟩, by simp; omega, ⟨rfl, rfl, ?_, svc (wrap_succ (k := j) (by omega)), trivial⟩, ⟨rfl, trivial⟩, rfl⟩
        show SV.v (AV.sl (eOfs (env ++ (q.2.2.2.zip x.k).take j) ++ [eOf (q.2.2.2[j], x.k[j])])) = SV.v (AV.sl (eOfs (env ++ (q.2.2.2.zip x.k).take (j + 1))))
        rw [hz]; simp [eOfs]
      · have h3 : j = q.2.2.2.length := by have h3 := of_decide_eq_false h3; rw [lenS] at h3; simp only at h3; omega
        subst h3
        have hzz : (q.2.2.2.zip x.k).take q.2.2.2.length = q.2.2.2.zip x.k := List.take_of_length_le (by rw [List.length_zip]; omega)
        rw [hzz]
        refine .inl ⟨_, hKc _ (by rw [List.length_append, List.length_zip]; omega), ?_⟩
        exact congrArg runT hres.symm
    have next : hitA q x = false → ∀ j h, j < k + 1 → hs[j]? = some h → hitA h x = false := fun hn j q' hj hq' => by
      rcases Nat.lt_or_ge j k with hlt | hge
      · exact hinv j q' hlt hq'
      · have : j = k := by omega
        subst this
        rw [hgh] at hq'; injection hq' with hq'; subst hq'; exact hn
    by_cases a2 : q.1 = 2
    · by_cases f2 : x.f = 2
      · by_cases n2 : x.n = q.2.1
        · have hh : hitA q x = true := by simp [hitA, a2, f2, n2]
          have hres := hall
          rw [if_pos hh] at hres
          have hxk : q.2.2.2.length ≤ x.k.length := by
            rcases hq.2 with h1 | h1
            · omega
            · rw [h1]; simp
          repeat (refine ⟨fun hbs => ?_, fun hbs => ?_⟩ <;> first | (exfalso; revert hbs; (simp [a2, f2, n2]); done) | skip)
          refine ⟨by rw [lenOf]; simp; omega, uni0 _, uniOf _, ?_⟩
          refine ⟨{j : Nat // j ≤ q.2.2.2.length}, fun j => { vs := [(9, .box 0 (eVl x)), (11, .box 0 (eAlt to q c)), (12, .v (.sl (eOfs (env ++ (q.2.2.2.zip x.k).take j.1)))), (13, sv (j.1 : Nat))], ow := [(12, 0, 6)] },
            fun j => q.2.2.2.length - j.1, ⟨0, Nat.zero_le _⟩, ⟨⟨rfl, rfl, ?_, rfl, trivial⟩, ⟨rfl, trivial⟩, rfl⟩, ?_⟩
          · show SV.v (AV.sl ([] ++ eOfs env)) = SV.v (AV.sl (eOfs (env ++ [])))
            rw [List.append_nil]; rfl
          rintro ⟨j, hj⟩
          refine ⟨fun h3 => ?_, fun h3 => ?_⟩
          · have h3 : j < q.2.2.2.length := by have h3 := of_decide_eq_true h3; rw [lenS] at h3; simp only at h3; omega
            have hjx : j < x.k.length := by omega
            have hg1 := getS h3
            have hg2 := getV hjx
            have hz : (q.2.2.2.zip x.k).take (j + 1) = (q.2.2.2.zip x.k).take j ++ [(q.2.2.2[j], x.k[j])] := by
              rw [List.take_succ_eq_append_getElem (by rw [List.length_zip]; omega), List.getElem_zip]
            rw [← x.eKids_eq] at hg2
            refine ⟨_, by omega, hg1, rfl, ?_⟩
            refine ⟨_, by omega, hg2, rfl, ?_⟩
            refine ⟨by rw [lenOf, List.length_append, List.length_take]; simp; omega, uniOf _, uni1 rfl, ?_⟩
            refine ⟨by kernel_rfl, ?_⟩
            refine ⟨⟨j + 1, h3⟩, by simp; omega, ⟨rfl, rfl, ?_, svc (wrap_succ (k := j) (by omega)), trivial⟩, ⟨rfl, trivial⟩, rfl⟩
            show SV.v (AV.sl (eOfs (env ++ (q.2.2.2.zip x.k).take j) ++ [eOf (q.2.2.2[j], x.k[j])])) = SV.v (AV.sl (eOfs (env ++ (q.2.2.2.zip x.k).take (j + 1))))
            rw [hz]; simp [eOfs]
          · have h3 : j = q.2.2.2.length := by have h3 := of_decide_eq_false h3; rw [lenS] at h3; simp only at h3; omega
            subst h3
            have hzz : (q.2.2.2.zip x.k).take q.2.2.2.length = q.2.2.2.zip x.k := List.take_of_length_le (by rw [List.length_zip]; omega)
            rw [hzz]
            refine .inl ⟨_, hKc _ (by rw [List.length_append, List.length_zip]; omega), ?_⟩
            exact congrArg runT hres.symm
        · have hh : hitA q x = false := by simp [hitA, a2, f2, n2]
          repeat (refine ⟨fun hbs => ?_, fun hbs => ?_⟩ <;> first | (exfalso; revert hbs; (simp [a2, f2, n2]); done) | skip)
          exact ⟨⟨k + 1, h, next hh⟩, by simp; omega, ⟨rfl, rfl, rfl, svc (wrap_succ (k := k) (by omega)), trivial⟩, trivial, rfl⟩
      · have hh : hitA q x = false := by simp [hitA, a2, f2]
        repeat (refine ⟨fun hbs => ?_, fun hbs => ?_⟩ <;> first | (exfalso; revert hbs; (simp [a2, f2]); done) | skip)
        exact ⟨⟨k + 1, h, next hh⟩, by simp; omega, ⟨rfl, rfl, rfl, svc (wrap_succ (k := k) (by omega)), trivial⟩, trivial, rfl⟩
    · by_cases a1 : q.1 = 1
      · by_cases f1 : x.f = 1
        · by_cases s1 : x.s = q.2.2.1
          · by_cases l1 : x.k.length = q.2.2.2.length
            · have hh : hitA q x = true := by simp [hitA, a1, f1, s1, l1]
              have hres := hall
              rw [if_pos hh] at hres
              have hxk : q.2.2.2.length ≤ x.k.length := by omega
              repeat (refine ⟨fun hbs => ?_, fun hbs => ?_⟩ <;> first | (exfalso; revert hbs; (simp [a1, f1, s1, l1, hxl, lenS]); done) | skip)
              refine ⟨by rw [lenOf]; simp; omega, uni0 _, uniOf _, ?_⟩
              refine ⟨{j : Nat // j ≤ q.2.2.2.length}, fun j => { vs := [(9, .box 0 (eVl x)), (11, .box 0 (eAlt to q c)), (12, .v (.sl (eOfs (env ++ (q.2.2.2.zip x.k).take j.1)))), (13, sv (j.1 : Nat))], ow := [(12, 0, 6)] },
                fun j => q.2.2.2.length - j.1, ⟨0, Nat.zero_le _⟩, ⟨⟨rfl, rfl, ?_, rfl, trivial⟩, ⟨rfl, trivial⟩, rfl⟩, ?_⟩
              · show SV.v (AV.sl ([] ++ eOfs env)) = SV.v (AV.sl (eOfs (env ++ [])))
                rw [List.append_nil]; rfl
              rintro ⟨j, hj⟩
              refine ⟨fun h3 => ?_, fun h3 => ?_⟩
              · have h3 : j < q.2.2.2.length := by have h3 := of_decide_eq_true h3; rw [lenS] at h3; simp only at h3; omega
                have hjx : j < x.k.length := by omega
                have hg1 := getS h3
                have hg2 := getV hjx
                have hz : (q.2.2.2.zip x.k).take (j + 1) = (q.2.2.2.zip x.k).take j ++ [(q.2.2.2[j], x.k[j])] := by
                  rw [List.take_succ_eq_append_getElem (by rw [List.length_zip]; omega), List.getElem_zip]
                rw [← x.eKids_eq] at hg2
                refine ⟨_, by omega, hg1, rfl, ?_⟩
                refine ⟨_, by omega, hg2, rfl, ?_⟩
                refine ⟨by rw [lenOf, List.length_append, List.length_take]; simp; omega, uniOf _, uni1 rfl, ?_⟩
                refine ⟨by kernel_rfl, ?_⟩
                refine ⟨⟨j + 1, h3⟩, by simp; omega, ⟨rfl, rfl, ?_, svc (wrap_succ (k := j) (by omega)), trivial⟩, ⟨rfl, trivial⟩, rfl⟩
                show SV.v (AV.sl (eOfs (env ++ (q.2.2.2.zip x.k).take j) ++ [eOf (q.2.2.2[j], x.k[j])])) = SV.v (AV.sl (eOfs (env ++ (q.2.2.2.zip x.k).take (j + 1))))
                rw [hz]; simp [eOfs]
              · have h3 : j = q.2.2.2.length := by have h3 := of_decide_eq_false h3; rw [lenS] at h3; simp only at h3; omega
                subst h3
                have hzz : (q.2.2.2.zip x.k).take q.2.2.2.length = q.2.2.2.zip x.k := List.take_of_length_le (by rw [List.length_zip]; omega)
                rw [hzz]
                refine .inl ⟨_, hKc _ (by rw [List.length_append, List.length_zip]; omega), ?_⟩
                exact congrArg runT hres.symm
            · have hh : hitA q x = false := by simp [hitA, a1, f1, s1, l1]
              have l2 : ¬ ((x.eKids.length : Nat) : Int) = ((eSs q.2.2.2).length : Nat) := by rw [hxl, lenS]; omega
              repeat (refine ⟨fun hbs => ?_, fun hbs => ?_⟩ <;> first | (exfalso; revert hbs; (first | (simp [a1, f1, s1]; done) | (intro h; exact l2 (of_decide_eq_true h))); done) | skip)
              exact ⟨⟨k + 1, h, next hh⟩, by simp; omega, ⟨rfl, rfl, rfl, svc (wrap_succ (k := k) (by omega)), trivial⟩, trivial, rfl⟩
          · have hh : hitA q x = false := by simp [hitA, a1, f1, s1]
            repeat (refine ⟨fun hbs => ?_, fun hbs => ?_⟩ <;> first | (exfalso; revert hbs; (simp [a1, f1, s1]); done) | skip)
            exact ⟨⟨k + 1, h, next hh⟩, by simp; omega, ⟨rfl, rfl, rfl, svc (wrap_succ (k := k) (by omega)), trivial⟩, trivial, rfl⟩
        · have hh : hitA q x = false := by simp [hitA, a1, f1]
          repeat (refine ⟨fun hbs => ?_, fun hbs => ?_⟩ <;> first | (exfalso; revert hbs; (simp [a1, f1]); done) | skip)
          exact ⟨⟨k + 1, h, next hh⟩, by simp; omega, ⟨rfl, rfl, rfl, svc (wrap_succ (k := k) (by omega)), trivial⟩, trivial, rfl⟩
      · have hh : hitA q x = false := by simp [hitA, a1, a2, a3]
        repeat (refine ⟨fun hbs => ?_, fun hbs => ?_⟩ <;> first | (exfalso; revert hbs; (simp [a1, a2, a3]); done) | skip)
        exact ⟨⟨k + 1, h, next hh⟩, by simp; omega, ⟨rfl, rfl, rfl, svc (wrap_succ (k := k) (by omega)), trivial⟩, trivial, rfl⟩
  · have h : k = hs.length := by have h := of_decide_eq_false h; rw [hal] at h; simp only at h; omega
    subst h
    have hall : runsL x hs ks env = (-1, env) := by
      rw [runsL_drop x env hs.length hs ks hlen hinv, List.drop_length, hlen, List.drop_length, runsL]
      all_goals (intros; simp_all)
    exact congrArg runT hall.symm
end Go.Proofs.YtefdahofpjmnfaaDoor

namespace Go.Proofs.YtefdahofpjmnfaaDoor
open Go Fp
set_option maxRecDepth 10000
set_option maxHeartbeats 4000000
set_option linter.unusedVariables false
set_option linter.unusedSimpArgs false

/-! ### names as ways from the root -/
def bytes (s : ByteArray) : List UInt8 := s.data.toList
theorem bytes_app (a b : ByteArray) : bytes (a ++ b) = bytes a ++ bytes b := by unfold bytes; simp
theorem bytes_inj {a b : ByteArray} (h : bytes a = bytes b) : a = b := by
  unfold bytes at h
  have := Array.toList_inj.1 h
  cases a; cases b; simp_all
def nmP : List Nat → ByteArray
  | [] => ⟨#[115]⟩
  | i :: w => kidN (nmP w) i
def atP (v0 : Vl) : List Nat → Option Vl
  | [] => some v0
  | i :: w => (atP v0 w).bind fun x => x.k[i]?
theorem dig_inj {i j : Nat} (hi : i < 3) (hj : j < 3) (h : dig i = dig j) : i = j := by
  match i, j, hi, hj with
  | 0, 0, _, _ | 1, 1, _, _ | 2, 2, _, _ => rfl
  | 0, 1, _, _ | 0, 2, _, _ | 1, 0, _, _ | 1, 2, _, _ | 2, 0, _, _ | 2, 1, _, _ => exact absurd h (by decide)
  | i + 3, _, h, _ => omega
  | _, j + 3, _, h => omega
theorem nmP_bytes : ∀ w, ∃ r, bytes (nmP w) = 115 :: r
  | [] => ⟨[], rfl⟩
  | i :: w => by
    obtain ⟨r, h⟩ := nmP_bytes w
    refine ⟨r ++ bytes ⟨#[64]⟩ ++ bytes (dig i), ?_⟩
    show bytes (nmP w ++ ⟨#[64]⟩ ++ dig i) = _
    rw [bytes_app, bytes_app, h]; simp
theorem kidN_inj {s t : ByteArray} {i j : Nat} (hi : i < 3) (hj : j < 3) (h : kidN s i = kidN t j) : s = t ∧ i = j := by
  have h := congrArg bytes h
  unfold kidN at h
  rw [bytes_app, bytes_app, bytes_app, bytes_app] at h
  obtain ⟨h1, h2⟩ := List.append_inj' h rfl
  obtain ⟨h3, _⟩ := List.append_inj' h1 rfl
  exact ⟨bytes_inj h3, dig_inj hi hj (bytes_inj h2)⟩
theorem kidN_root {s : ByteArray} {i : Nat} (h : kidN s i = ⟨#[115]⟩) : False := by
  have h := congrArg (fun b => (bytes b).length) h
  unfold kidN at h
  simp only [bytes_app, List.length_append] at h
  have : (bytes (dig i)).length = 1 := rfl
  have : (bytes ⟨#[64]⟩).length = 1 := rfl
  have : (bytes ⟨#[115]⟩).length = 1 := rfl
  omega
theorem nmP_inj : ∀ {w u : List Nat}, (∀ i ∈ w, i < 3) → (∀ i ∈ u, i < 3) → nmP w = nmP u → w = u
  | [], [], _, _, _ => rfl
  | [], j :: u, _, _, h => (kidN_root h.symm).elim
  | i :: w, [], _, _, h => (kidN_root h).elim
  | i :: w, j :: u, hw, hu, h => by
    obtain ⟨h1, h2⟩ := kidN_inj (hw i (by simp)) (hu j (by simp)) h
    rw [h2, nmP_inj (fun k hk => hw k (by simp [hk])) (fun k hk => hu k (by simp [hk])) h1]

/-- The name is of a place in the value, and this is what is there. -/
def Tr (v0 : Vl) (s : ByteArray) (x : Vl) : Prop := ∃ w, (∀ i ∈ w, i < 3) ∧ s = nmP w ∧ atP v0 w = some x
theorem Tr.uniq {v0 : Vl} {s : ByteArray} {x y : Vl} (h : Tr v0 s x) (k : Tr v0 s y) : x = y := by
  obtain ⟨w, h1, rfl, h3⟩ := h
  obtain ⟨u, k1, k2, k3⟩ := k
  rw [← nmP_inj h1 k1 k2, h3] at k3
  injection k3
theorem Tr.root (v0 : Vl) : Tr v0 ⟨#[115]⟩ v0 := ⟨[], by simp, rfl, rfl⟩
theorem Tr.kid {v0 : Vl} {s : ByteArray} {x y : Vl} {i : Nat} (h : Tr v0 s x) (hi : i < 3) (hy : x.k[i]? = some y) : Tr v0 (kidN s i) y := by
  obtain ⟨w, h1, rfl, h3⟩ := h
  refine ⟨i :: w, fun k hk => ?_, rfl, by rw [atP, h3]; exact hy⟩
  rcases List.mem_cons.1 hk with rfl | hk
  · exact hi
  · exact h1 k hk
theorem Tr.bytes {v0 : Vl} {s : ByteArray} {x : Vl} (h : Tr v0 s x) : ∃ r, bytes s = 115 :: r := by
  obtain ⟨w, _, rfl, _⟩ := h
  exact nmP_bytes w

/-! ### what a name has -/
theorem lookK_true {env : List Nv} {s : ByteArray} {x : Vl} (h : ∀ q ∈ env, q.1 = s → q.2 = x) : ∀ k, k ≤ env.length → (∃ j q, j < k ∧ env[j]? = some q ∧ q.1 = s) → lookK env s k = x
  | 0, _, ⟨j, q, hj, _⟩ => by omega
  | k + 1, hk, ⟨j, q, hj, hq, hs⟩ => by
    rw [lookK, List.getElem?_eq_getElem (by omega)]
    simp only
    by_cases he : env[k].1 = s
    · rw [if_pos he]; exact h _ (List.getElem_mem _) he
    · rw [if_neg he]
      have : j ≠ k := fun e => by subst e; rw [List.getElem?_eq_getElem (by omega)] at hq; injection hq with hq; rw [hq] at he; exact he hs
      exact lookK_true h k (by omega) ⟨j, q, by omega, hq, hs⟩
theorem look_true {env : List Nv} {v0 : Vl} {s : ByteArray} {x : Vl} (h : ∀ q ∈ env, Tr v0 q.1 q.2) (hx : Tr v0 s x) (hs : s ∈ env.map (·.1)) : lookE env s = x := by
  obtain ⟨q, hq, rfl⟩ := List.mem_map.1 hs
  obtain ⟨j, hj⟩ := List.getElem?_of_mem hq
  exact lookK_true (fun p hp e => (h p hp).uniq (e ▸ hx)) _ (Nat.le_refl _) ⟨j, q, (List.getElem?_eq_some_iff.1 hj).1, hj, rfl⟩
theorem lookK_app (env : List Nv) (q : Nv) (s : ByteArray) : ∀ k, k ≤ env.length → lookK (env ++ [q]) s k = lookK env s k
  | 0, _ => rfl
  | k + 1, h => by rw [lookK, lookK, List.getElem?_append_left (by omega), lookK_app env q s k (by omega)]
theorem look_snoc (env : List Nv) (q : Nv) (s : ByteArray) : lookE (env ++ [q]) s = if q.1 = s then q.2 else lookE env s := by
  unfold lookE
  rw [List.length_append, List.length_singleton, lookK, List.getElem?_append_right (Nat.le_refl _), Nat.sub_self]
  simp only [List.getElem?_cons_zero]
  rw [lookK_app _ _ _ _ (Nat.le_refl _)]
theorem letE_cons (env : List Nv) (q : Bd) (bs : List Bd) : letE env (q :: bs) = letE (env ++ [(q.1, lookE env q.2.2)]) bs := rfl
theorem letE_out : ∀ (bs : List Bd) (env : List Nv) (s : ByteArray), s ∉ bs.map (·.1) → lookE (letE env bs) s = lookE env s
  | [], env, s, _ => rfl
  | q :: bs, env, s, h => by
    simp only [List.map_cons, List.mem_cons, not_or] at h
    rw [letE_cons, letE_out bs _ s h.2, look_snoc, if_neg (Ne.symm h.1)]
theorem letE_in : ∀ (bs : List Bd) (env : List Nv), (bs.map (·.1)).Nodup → (∀ q ∈ bs, q.2.2 ∉ bs.map (·.1)) → ∀ q ∈ bs, lookE (letE env bs) q.1 = lookE env q.2.2
  | [], env, _, _, q, hq => by simp at hq
  | p :: bs, env, hn, hb, q, hq => by
    simp only [List.map_cons, List.nodup_cons] at hn
    have hbp := hb q hq
    simp only [List.map_cons, List.mem_cons, not_or] at hbp
    rw [letE_cons]
    rcases List.mem_cons.1 hq with rfl | hq
    · rw [letE_out bs _ _ hn.1, look_snoc, if_pos rfl]
    · rw [letE_in bs _ hn.2 (fun q hq h => hb q (by simp [hq]) (by simp only [List.map_cons, List.mem_cons]; exact .inr h)) q hq, look_snoc, if_neg (Ne.symm hbp.1)]

/-! ### the names that a pattern gives -/
mutual
def names : Pt → List ByteArray
  | .mk f _ s _ _ k => if f = 2 then [s] else namesL k
def namesL : List Pt → List ByteArray
  | [] => []
  | p :: ps => names p ++ namesL ps
end
mutual
def bound : Pt → Vl → List Nv
  | .mk f _ s _ _ k, v => if f = 2 then [(s, v)] else boundL k v.k
def boundL : List Pt → List Vl → List Nv
  | p :: ps, v :: vs => bound p v ++ boundL ps vs
  | _, _ => []
end
theorem names_eq (p : Pt) : names p = if p.f = 2 then [p.s] else namesL p.k := by cases p; rw [names]; rfl
theorem bound_eq (p : Pt) (v : Vl) : bound p v = if p.f = 2 then [(p.s, v)] else boundL p.k v.k := by cases p; rw [bound]; rfl
theorem boundL_nil (vs : List Vl) : boundL [] vs = [] := by rw [boundL]; intros; simp_all
theorem boundL_cons (p : Pt) (ps : List Pt) (v : Vl) (vs : List Vl) : boundL (p :: ps) (v :: vs) = bound p v ++ boundL ps vs := by rw [boundL]
theorem namesL_app : ∀ l m : List Pt, namesL (l ++ m) = namesL l ++ namesL m
  | [], m => by rw [namesL]; rfl
  | p :: l, m => by rw [List.cons_append, namesL, namesL, namesL_app l m, List.append_assoc]
theorem boundL_app : ∀ {l m : List Pt} {vs us : List Vl}, l.length = vs.length → boundL (l ++ m) (vs ++ us) = boundL l vs ++ boundL m us
  | [], m, [], us, _ => by rw [boundL_nil]; rfl
  | p :: l, m, v :: vs, us, h => by rw [List.cons_append, List.cons_append, boundL_cons, boundL_cons, boundL_app (by simpa using h), List.append_assoc]
  | [], _, _ :: _, _, h => by simp at h
  | _ :: _, _, [], _, h => by simp at h
theorem names_wild : names wildP = [] := by rw [names_eq]; exact if_neg (by decide)
theorem namesL_wild : ∀ n, namesL (List.replicate n wildP) = []
  | 0 => by rw [List.replicate_zero, namesL]
  | n + 1 => by rw [List.replicate_succ, namesL, namesL_wild n, names_wild]; rfl
theorem split_at {α : Type} {l : List α} {a : Nat} {x : α} (h : l[a]? = some x) : l = l.take a ++ x :: l.drop (a + 1) := by
  have ha := (List.getElem?_eq_some_iff.1 h).1
  have e : l[a] = x := (List.getElem?_eq_some_iff.1 h).2
  rw [← e, ← List.drop_eq_getElem_cons ha, List.take_append_drop]

/-! ### a column -/
def Kn.IsA (a : Nat) : Kn → List Rw → Vl → Prop
  | .con s n, _, v => v.f = 1 ∧ v.s = s ∧ v.k.length = n
  | .int x, _, v => v.f = 2 ∧ v.n = x
  | .none, l, v => ∀ r ∈ l, ∀ p, r.ps[a]? = some p → p.opn = false → takes p v = false
theorem isA_one {K : Kn} {a : Nat} {l : List Rw} {v : Vl} {r : Rw} {p : Pt} (h : K.IsA a l v) (hr : r ∈ l) (hp : r.ps[a]? = some p) (B : List Pt) (lost : List Bd) (body : Nat) : K.Is [⟨p :: B, lost, body⟩] v := by
  cases K with
  | con s n => exact h
  | int x => exact h
  | none =>
    intro q hq p' ps' hp' ho
    simp at hq; subst hq
    simp only at hp'
    injection hp' with h1 h2; subst h1
    exact h r hr p hp ho
theorem part_shift (K : Kn) {a : Nat} (y : ByteArray) {r : Rw} {p : Pt} (hp : r.ps[a]? = some p) : part K a y r = (part K 0 y ⟨p :: r.ps.drop (a + 1), r.lost, r.body⟩).map fun x => ⟨r.ps.take a ++ x.ps, x.lost, x.body⟩ := by
  rw [part0 K y (r := ⟨p :: r.ps.drop (a + 1), r.lost, r.body⟩) rfl]
  unfold part
  rw [hp]
  simp only
  split
  · simp
  · split
    · simp
    · rfl
theorem TyPs.dropC {cs : List Nat} {ps : List Pt} {a t : Nat} {p : Pt} (h : TyPs cs ps) (ha : cs[a]? = some t) (hp : ps[a]? = some p) : TyPs (t :: cs.drop (a + 1)) (p :: ps.drop (a + 1)) := by
  have := h.drop a
  rw [List.drop_eq_getElem_cons (List.getElem?_eq_some_iff.1 ha).1, List.drop_eq_getElem_cons (List.getElem?_eq_some_iff.1 hp).1, (List.getElem?_eq_some_iff.1 ha).2, (List.getElem?_eq_some_iff.1 hp).2] at this
  exact this
theorem part_takesA {K : Kn} {a t : Nat} {cs fs : List Nat} {l : List Rw} {y : ByteArray} {r : Rw} {v : Vl} {vs : List Vl} (hr : r ∈ l) (ht : TyPs cs r.ps) (ha : cs[a]? = some t) (hvl : vs.length = cs.length) (hv : vs[a]? = some v) (hK : Fit t K fs) (hI : K.IsA a l v) :
    takesL r.ps vs = (part K a y r).any fun x => takesL x.ps (vs.take a ++ K.kids v ++ vs.drop (a + 1)) := by
  obtain ⟨p, hp, _⟩ := ht.get ha
  have hal := (List.getElem?_eq_some_iff.1 ha).1
  have hpl := ht.len
  have e1 := part_takes (l := [⟨p :: r.ps.drop (a + 1), r.lost, r.body⟩]) (r := ⟨p :: r.ps.drop (a + 1), r.lost, r.body⟩) (y := y) (us := vs.drop (a + 1)) (v := v) (by simp) (ht.dropC ha hp) hK (isA_one hI hr hp _ _ _)
  have hlen : (r.ps.take a).length = (vs.take a).length := by rw [List.length_take, List.length_take]; omega
  have e2 : takesL r.ps vs = (takesL (r.ps.take a) (vs.take a) && takesL (p :: r.ps.drop (a + 1)) (v :: vs.drop (a + 1))) := by
    conv => lhs; rw [split_at hp, split_at hv]
    exact takesL_app hlen
  rw [e2, e1, part_shift K y hp]
  cases part K 0 y ⟨p :: r.ps.drop (a + 1), r.lost, r.body⟩ with
  | none => simp
  | some x =>
    simp only [Option.map_some, Option.any_some]
    rw [List.append_assoc, takesL_app hlen]
theorem find_parts {α β : Type} {f : α → Bool} {f' : β → Bool} {g : α → Option β} : ∀ {l : List α}, (∀ r ∈ l, f r = (g r).any f') → (l.filterMap g).find? f' = (l.find? f).bind g
  | [], _ => rfl
  | r :: l, h => by
    have h0 := h r (by simp)
    have ih := find_parts (l := l) (fun x hx => h x (by simp [hx]))
    cases hg : g r with
    | none =>
      rw [hg] at h0
      rw [List.filterMap_cons_none hg, List.find?_cons, h0, ih]; rfl
    | some x =>
      rw [hg] at h0
      rw [List.filterMap_cons_some hg, List.find?_cons, List.find?_cons, h0]
      cases hx : f' x with
      | true => simp only [Option.any_some, hx, Option.bind_some, hg]
      | false => simp only [Option.any_some, hx, ih]
/-- What a row is in a column, its names the same. -/
theorem part_names {K : Kn} {a t : Nat} {cs fs : List Nat} {y : ByteArray} {r x : Rw} (ht : TyPs cs r.ps) (ha : cs[a]? = some t) (hx : part K a y r = some x) :
    (x.lost.map (·.1) ++ namesL x.ps).Perm (r.lost.map (·.1) ++ namesL r.ps) ∧ (∀ q ∈ r.lost, q ∈ x.lost) ∧ (∀ q ∈ x.lost, q ∈ r.lost ∨ q.2.2 = y) ∧ x.body = r.body := by
  obtain ⟨p, hp, hty⟩ := ht.get ha
  unfold part at hx
  rw [hp] at hx
  simp only at hx
  have e : namesL r.ps = namesL (r.ps.take a) ++ (names p ++ namesL (r.ps.drop (a + 1))) := by
    conv => lhs; rw [split_at hp]
    rw [namesL_app, namesL]
  by_cases ho : p.opn = true
  · rw [if_pos ho] at hx
    injection hx with hx; subst hx
    rw [e]
    simp only [namesL_app, namesL_wild, List.append_nil]
    by_cases h2 : p.f = 2
    · refine ⟨?_, fun q hq => List.mem_append_left _ hq, fun q hq => ?_, trivial⟩
      · rw [if_pos h2, names_eq, if_pos h2, List.map_append, List.append_assoc]
        refine List.Perm.append_left _ ?_
        simp only [List.map_cons, List.map_nil, List.cons_append, List.nil_append]
        exact (List.perm_middle (l₁ := namesL (r.ps.take a)) (l₂ := namesL (r.ps.drop (a + 1))) (a := p.s)).symm
      · rw [if_pos h2] at hq
        rcases List.mem_append.1 hq with hq | hq
        · exact .inl hq
        · simp at hq; subst hq; exact .inr rfl
    · have hk : p.k = [] := by
        cases hty with
        | any _ _ _ hk _ => exact hk
        | int _ h3 hk => exact hk
        | con _ _ _ h4 => unfold Pt.opn at ho; simp [h4] at ho
      refine ⟨?_, fun q hq => List.mem_append_left _ hq, fun q hq => ?_, trivial⟩
      · rw [if_neg h2, names_eq, if_neg h2, hk, namesL, List.append_nil]; exact .refl _
      · rw [if_neg h2, List.append_nil] at hq; exact .inl hq
  · rw [if_neg ho] at hx
    split at hx
    · injection hx with hx; subst hx
      have h2 : p.f ≠ 2 := fun h => ho (by simp [Pt.opn, h])
      refine ⟨?_, fun q hq => hq, fun q hq => .inl hq, rfl⟩
      rw [e, names_eq, if_neg h2]
      simp only [namesL_app, List.append_assoc]; exact .refl _
    · cases hx
theorem part_bound {K : Kn} {a t : Nat} {cs fs : List Nat} {y : ByteArray} {r x : Rw} {v : Vl} {vs : List Vl} (ht : TyPs cs r.ps) (ha : cs[a]? = some t) (hK : Fit t K fs) (hkl : (K.kids v).length = fs.length) (hvl : vs.length = cs.length) (hv : vs[a]? = some v) (hx : part K a y r = some x) :
    ∀ z ∈ boundL r.ps vs, z ∈ boundL x.ps (vs.take a ++ K.kids v ++ vs.drop (a + 1)) ∨ ∃ q ∈ x.lost, q.1 = z.1 ∧ q.2.2 = y ∧ z.2 = v := by
  obtain ⟨p, hp, hty⟩ := ht.get ha
  have hal := (List.getElem?_eq_some_iff.1 ha).1
  have hpl := ht.len
  have hlen : (r.ps.take a).length = (vs.take a).length := by rw [List.length_take, List.length_take]; omega
  have e : boundL r.ps vs = boundL (r.ps.take a) (vs.take a) ++ (bound p v ++ boundL (r.ps.drop (a + 1)) (vs.drop (a + 1))) := by
    conv => lhs; rw [split_at hp, split_at hv]
    rw [boundL_app hlen, boundL_cons]
  unfold part at hx
  rw [hp] at hx
  simp only at hx
  intro z hz
  rw [e] at hz
  have hm := hK.many
  by_cases ho : p.opn = true
  · rw [if_pos ho] at hx
    injection hx with hx; subst hx
    simp only
    rw [List.append_assoc, List.append_assoc, boundL_app hlen, boundL_app (by rw [List.length_replicate]; omega)]
    rcases List.mem_append.1 hz with hz | hz
    · exact .inl (List.mem_append_left _ hz)
    rcases List.mem_append.1 hz with hz | hz
    · by_cases h2 : p.f = 2
      · rw [bound_eq, if_pos h2] at hz
        simp at hz; subst hz
        exact .inr ⟨(p.s, p.t, y), by rw [if_pos h2]; simp, rfl, rfl, rfl⟩
      · have hk : p.k = [] := by
          cases hty with
          | any _ _ _ hk _ => exact hk
          | int _ h3 hk => exact hk
          | con _ _ _ h4 => unfold Pt.opn at ho; simp [h4] at ho
        rw [bound_eq, if_neg h2, hk, boundL_nil] at hz
        simp at hz
    · exact .inl (List.mem_append_right _ (List.mem_append_right _ hz))
  · rw [if_neg ho] at hx
    split at hx
    · rename_i hh
      injection hx with hx; subst hx
      have h2 : p.f ≠ 2 := fun h => ho (by simp [Pt.opn, h])
      have hkt := (hits_kids hty hK hh).len
      simp only
      rw [List.append_assoc, List.append_assoc, boundL_app hlen, boundL_app (by omega)]
      rw [bound_eq, if_neg h2] at hz
      refine .inl ?_
      have hkk : boundL p.k v.k = boundL p.k (K.kids v) := by
        cases K with
        | con s n => rfl
        | int x =>
          have : p.k = [] := by cases hK; simpa using hkt
          rw [this, boundL_nil, boundL_nil]
        | none => simp [Kn.hits] at hh
      rw [← hkk]; exact hz
    · cases hx
end Go.Proofs.YtefdahofpjmnfaaDoor
