/- Whether evidence checks, by the code. No condition but that types have no TAll and that there is little. -/
import Derived.Test.YtkhnjmbgkakngaaDoorM
set_option linter.unusedSimpArgs false
set_option linter.unusedVariables false
namespace Go.Proofs.YtkhnjmbgkakngaaDoor
open Go Fp
set_option maxRecDepth 10000
set_option maxHeartbeats 4000000
set_option linter.unusedVariables false
set_option linter.unusedSimpArgs false

theorem cloneS_ok (l : List ByteArray) (hl : l.length < 20000) : ACall Tryd.prog n_slices_Clone_stringstring [.sl (eSs l)] (.sl (eSs l)) := by
  cases l with
  | nil =>
    refine acall_of_wcx ttok mixed Tryd.func68 rfl (by rfl) (Nat.le_of_ble_eq_true rfl) (by kernel_rfl) ?_
    refine ⟨?_, ?_⟩
    · exact rfl
    refine ⟨by decide, fun a ha => by simp at ha, uniS [], ?_⟩
    exact rfl
  | cons q l =>
    refine acall_of_wcx ttok mixed Tryd.func68 rfl (by rfl) (Nat.le_of_ble_eq_true rfl) (by kernel_rfl) ?_
    refine ⟨by simp [eSs] at hl ⊢; omega, fun a ha => by simp at ha, uniS (q :: l), ?_⟩
    exact rfl
theorem uniSg' (l : List (ByteArray × Int)) : Uni 9 (eSgs l) := fun a ha => by obtain ⟨x, _, rfl⟩ := List.mem_map.1 ha; rfl
theorem cloneG_ok (l : List (ByteArray × Int)) (hl : l.length < 20000) : ACall Tryd.prog n_slices_Clone_apiSigapiSig [.sl (eSgs l)] (.sl (eSgs l)) := by
  cases l with
  | nil =>
    refine acall_of_wcx ttok mixed Tryd.func69 rfl (by rfl) (Nat.le_of_ble_eq_true rfl) (by kernel_rfl) ?_
    refine ⟨?_, ?_⟩
    · exact rfl
    refine ⟨by decide, fun a ha => by simp at ha, uniSg' [], ?_⟩
    exact rfl
  | cons q l =>
    refine acall_of_wcx ttok mixed Tryd.func69 rfl (by rfl) (Nat.le_of_ble_eq_true rfl) (by kernel_rfl) ?_
    refine ⟨by simp [eSgs] at hl ⊢; omega, fun a ha => by simp at ha, uniSg' (q :: l), ?_⟩
    exact rfl
theorem len_ok (m : List Cl) (mm : List (AV × AV)) (is : List In) : ACall Tryd.prog n_classes_Env_Len [eEnv m mm is] (.lit (.int .i64 (is.length : Nat))) := by
  have e : (eIns is).length = is.length := by simp [eIns]
  rw [← e]
  refine acall_of_wcx ttok mixed Tryd.func37 rfl (by rfl) (Nat.le_of_ble_eq_true rfl) (by kernel_rfl) ?_
  exact rfl
theorem classC_ok (m : List Cl) (mm : List (AV × AV)) (is : List In) (hs : ∀ c ∈ m, c.sup.length < 1000) (hm : ∀ c ∈ m, c.mth.length < 1000) (s : ByteArray) : ACall Tryd.prog n_classes_Env_Class [eEnv m mm is, .lit (.string s)] (.tup [eCl ((lookC m s).getD zCl), .sb (lookC m s).isSome]) := by
  refine acall_of_wcx ttok mixed Tryd.func42 rfl (by rfl) (Nat.le_of_ble_eq_true rfl) (by kernel_rfl) ?_
  rcases found_cls m s with ⟨h1, h2⟩ | ⟨j, c, h1, h2⟩
  · refine ⟨none, keys_cls m, trivial, h2, ?_⟩
    refine .inl ⟨_, cloneS_ok [] (by decide), ?_⟩
    refine .inl ⟨_, cloneG_ok [] (by decide), ?_⟩
    refine ⟨by kernel_rfl, ?_⟩
    rw [h1]
    exact rfl
  · have hc := (lookC_mem h1).1
    refine ⟨some (j, eCl c), keys_cls m, trivial, h2, ?_⟩
    refine .inl ⟨_, cloneS_ok c.sup (by have := hs c hc; omega), ?_⟩
    refine .inl ⟨_, cloneG_ok c.mth (by have := hm c hc; omega), ?_⟩
    refine ⟨by kernel_rfl, ?_⟩
    rw [h1]
    exact rfl
end Go.Proofs.YtkhnjmbgkakngaaDoor

namespace Go.Proofs.YtkhnjmbgkakngaaDoor
open Go Fp
set_option maxRecDepth 10000
set_option maxHeartbeats 4000000
set_option linter.unusedVariables false
set_option linter.unusedSimpArgs false

def zPR : PR := ⟨.empty, .no⟩
def zIn : In := ⟨.empty, 0, .empty, [], []⟩
def supAt (m : List Cl) (s : ByteArray) (k : Int) : Option ByteArray := match lookC m s with
  | some c => if k < c.sup.length then some (c.sup.getD k.toNat .empty) else none
  | none => none
def clsE (m : List Cl) (is : List In) (g : List PR) : Nat → Ev → ByteArray
  | 0, _ => .empty
  | n + 1, .mk f k ks => if k < 0 then .empty else if f = 1 ∧ k < g.length then (g.getD k.toNat zPR).cls else if f = 3 ∧ k < is.length then (is.getD k.toNat zIn).cls else
      if f = 2 then match ks with
        | [v] => (supAt m (clsE m is g n v) k).getD .empty
        | _ => .empty
      else .empty
theorem clsE_succ (m : List Cl) (is : List In) (g : List PR) (n : Nat) (f k : Int) (ks : List Ev) : clsE m is g (n + 1) (.mk f k ks) = if k < 0 then .empty else if f = 1 ∧ k < g.length then (g.getD k.toNat zPR).cls else if f = 3 ∧ k < is.length then (is.getD k.toNat zIn).cls else
      if f = 2 then match ks with
        | [v] => (supAt m (clsE m is g n v) k).getD .empty
        | _ => .empty
      else .empty := by
  match ks with
  | [] => rfl
  | [v] => rfl
  | a :: b :: r => rfl
def tldE (m : List Cl) (is : List In) (g : List PR) (n : Nat) : Ev → Bool
  | .mk f k ks => if k < 0 then false else if f = 1 then decide (k < g.length) else if f = 3 then decide (k < is.length) else
      if f = 2 then match ks with
        | [v] => (supAt m (clsE m is g n v) k).isSome
        | _ => false
      else false
theorem tldE_eq (m : List Cl) (is : List In) (g : List PR) (n : Nat) (f k : Int) (ks : List Ev) : tldE m is g n (.mk f k ks) = if k < 0 then false else if f = 1 then decide (k < g.length) else if f = 3 then decide (k < is.length) else
      if f = 2 then match ks with
        | [v] => (supAt m (clsE m is g n v) k).isSome
        | _ => false
      else false := by
  match ks with
  | [] => rfl
  | [v] => rfl
  | a :: b :: r => rfl
def Dp : Nat → Ev → Prop
  | 0, _ => False
  | n + 1, .mk _ _ ks => ∀ x ∈ ks, Dp n x
theorem getD_pr {g : List PR} {k : Int} (h0 : ¬ k < 0) (h : k < g.length) : (ePrs g)[k.toNat]? = some (ePr (g.getD k.toNat zPR)) := by
  have : k.toNat < g.length := by omega
  rw [getPr this, List.getD_eq_getElem?_getD, List.getElem?_eq_getElem this]; rfl
theorem getD_ss {g : List ByteArray} {k : Int} (h0 : ¬ k < 0) (h : k < g.length) : (eSs g)[k.toNat]? = some (.lit (.string (g.getD k.toNat .empty))) := by
  have : k.toNat < g.length := by omega
  rw [getS this, List.getD_eq_getElem?_getD, List.getElem?_eq_getElem this]; rfl
section
variable (m : List Cl) (mm : List (AV × AV)) (is : List In) (hs : ∀ c ∈ m, c.sup.length < 1000) (hmt : ∀ c ∈ m, c.mth.length < 1000) (hi : is.length < 20000) (g : List PR)
include hi
theorem at_int {k : Int} (h0 : ¬ k < 0) (h : k < is.length) : ACall Tryd.prog n_classes_Env_At [eEnv m mm is, .lit (.int .i64 k)] (eIn (is.getD k.toNat zIn)) := by
  have h' : k.toNat < is.length := by omega
  have := envAt_ok m mm is k.toNat h' (by omega)
  rw [Int.toNat_of_nonneg (by omega)] at this
  rw [List.getD_eq_getElem?_getD, List.getElem?_eq_getElem h']
  exact this
include hs hmt
theorem classV_ok : ∀ (n : Nat) (v : Ev), Dp n v → ACall Tryd.prog n_entail_class [eEnv m mm is, .sl (ePrs g), eV v] (.lit (.string (clsE m is g n v)))
  | 0, v, h => h.elim
  | n + 1, .mk f k ks, hD => by
    have hg : (ePrs g).length = g.length := by simp [ePrs]
    generalize hR : clsE m is g (n + 1) (.mk f k ks) = R
    rw [clsE_succ] at hR
    refine acall_of_wcx ttok mixed Tryd.func54 rfl (by rfl) (Nat.le_of_ble_eq_true rfl) (by kernel_rfl) ?_
    by_cases h0 : k < 0
    · rw [if_pos h0] at hR
      subst hR
      refine ⟨fun hbs => ?_, fun hbs => ?_⟩ <;> first | (exfalso; revert hbs; (simp [nE, h0]); done) | skip
      exact rfl
    · rw [if_neg h0] at hR
      refine ⟨fun hbs => ?_, fun hbs => ?_⟩ <;> first | (exfalso; revert hbs; (simp [nE, h0]); done) | skip
      by_cases h1 : f = 1
      · refine ⟨fun hbs => ?_, fun hbs => ?_⟩ <;> first | (exfalso; revert hbs; (simp [fE, h1]); done) | skip
        by_cases hk : k < g.length
        · rw [if_pos ⟨h1, hk⟩] at hR
          subst hR
          refine ⟨fun hbs => ?_, fun hbs => ?_⟩ <;> first | (exfalso; revert hbs; (simp only [hg, nE]; simp [hk]); done) | skip
          refine ⟨_, by show 0 ≤ k; omega, getD_pr h0 hk, rfl, ?_⟩
          exact rfl
        · rw [if_neg (fun h => hk h.2), if_neg (fun h => by omega), if_neg (by omega)] at hR
          subst hR
          refine ⟨fun hbs => ?_, fun hbs => ?_⟩ <;> first | (exfalso; revert hbs; (simp only [hg, nE]; simp [hk]); done) | skip
          refine ⟨fun hbs => ?_, fun hbs => ?_⟩ <;> first | (exfalso; revert hbs; (simp [fE, h1]); done) | skip
          refine ⟨by kernel_rfl, ?_⟩
          refine ⟨fun hbs => ?_, fun hbs => ?_⟩ <;> first | (exfalso; revert hbs; (simp [fE, h1]); done) | skip
          exact rfl
      · rw [if_neg (fun h => h1 h.1)] at hR
        refine ⟨fun hbs => ?_, fun hbs => ?_⟩ <;> first | (exfalso; revert hbs; (simp [fE, h1]); done) | skip
        by_cases h3 : f = 3
        · refine ⟨fun hbs => ?_, fun hbs => ?_⟩ <;> first | (exfalso; revert hbs; (simp [fE, h3]); done) | skip
          refine .inl ⟨_, len_ok m mm is, ?_⟩
          refine ⟨by kernel_rfl, ?_⟩
          by_cases hk : k < is.length
          · rw [if_pos ⟨h3, hk⟩] at hR
            subst hR
            refine ⟨fun hbs => ?_, fun hbs => ?_⟩ <;> first | (exfalso; revert hbs; (simp [nE, hk]); done) | skip
            refine .inl ⟨_, at_int m mm is hi h0 hk, ?_⟩
            exact rfl
          · rw [if_neg (fun h => hk h.2), if_neg (by omega)] at hR
            subst hR
            refine ⟨fun hbs => ?_, fun hbs => ?_⟩ <;> first | (exfalso; revert hbs; (simp [nE, hk]); done) | skip
            refine ⟨fun hbs => ?_, fun hbs => ?_⟩ <;> first | (exfalso; revert hbs; (simp [fE, h3]); done) | skip
            exact rfl
        · rw [if_neg (fun h => h3 h.1)] at hR
          refine ⟨fun hbs => ?_, fun hbs => ?_⟩ <;> first | (exfalso; revert hbs; (simp [fE, h3]); done) | skip
          refine ⟨by kernel_rfl, ?_⟩
          by_cases h2 : f = 2
          · rw [if_pos h2] at hR
            refine ⟨fun hbs => ?_, fun hbs => ?_⟩ <;> first | (exfalso; revert hbs; (simp [fE, h2]); done) | skip
            match ks, hD, hR with
            | [], _, hR =>
              subst hR
              refine ⟨fun hbs => ?_, fun hbs => ?_⟩ <;> first | (exfalso; revert hbs; (simp [eEvs_len, kE]); done) | skip
              exact rfl
            | [v], hD, hR =>
              refine ⟨fun hbs => ?_, fun hbs => ?_⟩ <;> first | (exfalso; revert hbs; (simp [eEvs_len, kE]); done) | skip
              refine ⟨_, by omega, getEv (l := [v]) (k := 0) (by simp), rfl, ?_⟩
              refine .inl ⟨_, classV_ok n v (hD v (by simp)), ?_⟩
              refine .inl ⟨_, classC_ok m mm is hs hmt _, ?_⟩
              simp only [supAt] at hR
              cases hl : lookC m (clsE m is g n v) with
              | none =>
                rw [hl] at hR
                simp only [Option.getD_none] at hR
                subst hR
                refine ⟨fun hbs => ?_, fun hbs => ?_⟩ <;> first | (exfalso; revert hbs; (simp); done) | skip
                exact rfl
              | some c =>
                rw [hl] at hR
                simp only at hR
                refine ⟨fun hbs => ?_, fun hbs => ?_⟩ <;> first | (exfalso; revert hbs; (simp); done) | skip
                by_cases hk : k < c.sup.length
                · rw [if_pos hk] at hR
                  simp only [Option.getD_some] at hR
                  subst hR
                  refine ⟨fun hbs => ?_, fun hbs => ?_⟩ <;> first | (exfalso; revert hbs; (simp [nE, eSs, hk]); done) | skip
                  refine ⟨_, by show 0 ≤ k; omega, getD_ss h0 hk, rfl, ?_⟩
                  exact rfl
                · rw [if_neg hk] at hR
                  simp only [Option.getD_none] at hR
                  subst hR
                  refine ⟨fun hbs => ?_, fun hbs => ?_⟩ <;> first | (exfalso; revert hbs; (simp [nE, eSs, hk]); done) | skip
                  exact rfl
            | a :: b :: r, _, hR =>
              subst hR
              refine ⟨fun hbs => ?_, fun hbs => ?_⟩ <;> first | (exfalso; revert hbs; (intro h; have h := of_decide_eq_true h; simp [eEvs_len, kE] at h; omega); done) | skip
              exact rfl
          · rw [if_neg h2] at hR
            subst hR
            refine ⟨fun hbs => ?_, fun hbs => ?_⟩ <;> first | (exfalso; revert hbs; (simp [fE, h2]); done) | skip
            exact rfl
theorem told_ok (n : Nat) : ∀ (v : Ev), Dp (n + 1) v → ACall Tryd.prog n_entail_told [eEnv m mm is, .sl (ePrs g), eV v] (.sb (tldE m is g n v))
  | .mk f k ks, hD => by
    have hg : (ePrs g).length = g.length := by simp [ePrs]
    obtain ⟨R, hR'⟩ : ∃ R, R = tldE m is g n (.mk f k ks) := ⟨_, rfl⟩
    rw [← hR']
    have hR := (tldE_eq m is g n f k ks).symm.trans hR'.symm
    clear hR'
    refine acall_of_wcx ttok mixed Tryd.func53 rfl (by rfl) (Nat.le_of_ble_eq_true rfl) (by kernel_rfl) ?_
    by_cases h0 : k < 0
    · rw [if_pos h0] at hR
      subst hR
      refine ⟨fun hbs => ?_, fun hbs => ?_⟩ <;> first | (exfalso; revert hbs; (simp [nE, h0]); done) | skip
      exact rfl
    · rw [if_neg h0] at hR
      refine ⟨fun hbs => ?_, fun hbs => ?_⟩ <;> first | (exfalso; revert hbs; (simp [nE, h0]); done) | skip
      by_cases h1 : f = 1
      · rw [if_pos h1, ← hg] at hR
        subst hR
        refine ⟨fun hbs => ?_, fun hbs => ?_⟩ <;> first | (exfalso; revert hbs; (simp [fE, h1]); done) | skip
        exact rfl
      · rw [if_neg h1] at hR
        refine ⟨fun hbs => ?_, fun hbs => ?_⟩ <;> first | (exfalso; revert hbs; (simp [fE, h1]); done) | skip
        by_cases h3 : f = 3
        · rw [if_pos h3] at hR
          subst hR
          refine ⟨fun hbs => ?_, fun hbs => ?_⟩ <;> first | (exfalso; revert hbs; (simp [fE, h3]); done) | skip
          refine .inl ⟨_, len_ok m mm is, ?_⟩
          refine ⟨by kernel_rfl, ?_⟩
          exact rfl
        · rw [if_neg h3] at hR
          refine ⟨fun hbs => ?_, fun hbs => ?_⟩ <;> first | (exfalso; revert hbs; (simp [fE, h3]); done) | skip
          by_cases h2 : f = 2
          · rw [if_pos h2] at hR
            refine ⟨fun hbs => ?_, fun hbs => ?_⟩ <;> first | (exfalso; revert hbs; (simp [fE, h2]); done) | skip
            match ks, hD, hR with
            | [], _, hR =>
              subst hR
              refine ⟨fun hbs => ?_, fun hbs => ?_⟩ <;> first | (exfalso; revert hbs; (simp [eEvs_len, kE]); done) | skip
              exact rfl
            | [v], hD, hR =>
              refine ⟨fun hbs => ?_, fun hbs => ?_⟩ <;> first | (exfalso; revert hbs; (simp [eEvs_len, kE]); done) | skip
              refine ⟨_, by omega, getEv (l := [v]) (k := 0) (by simp), rfl, ?_⟩
              refine .inl ⟨_, classV_ok m mm is hs hmt hi g n v (hD v (by simp)), ?_⟩
              refine .inl ⟨_, classC_ok m mm is hs hmt _, ?_⟩
              simp only [supAt] at hR
              cases hl : lookC m (clsE m is g n v) with
              | none =>
                rw [hl] at hR
                simp only [Option.isSome_none] at hR
                subst hR
                refine ⟨fun hbs => ?_, fun hbs => ?_⟩ <;> first | (exfalso; revert hbs; (simp); done) | skip
                exact rfl
              | some c =>
                rw [hl] at hR
                simp only at hR
                refine ⟨fun hbs => ?_, fun hbs => ?_⟩ <;> first | (exfalso; revert hbs; (simp); done) | skip
                have e : R = decide (k < (eSs c.sup).length) := by
                  rw [← hR, show (eSs c.sup).length = c.sup.length by simp [eSs]]
                  by_cases hk : k < c.sup.length <;> simp [hk]
                subst e
                exact rfl
            | a :: b :: r, _, hR =>
              subst hR
              refine ⟨fun h => ?_, fun h => ?_⟩
              · exact rfl
              · exfalso
                revert h
                intro h
                simp [eEvs_len, kE] at h
                omega
          · rw [if_neg h2] at hR
            subst hR
            refine ⟨fun hbs => ?_, fun hbs => ?_⟩ <;> first | (exfalso; revert hbs; (simp [fE, h2]); done) | skip
            exact rfl
end
end Go.Proofs.YtkhnjmbgkakngaaDoor

namespace Go.Proofs.YtkhnjmbgkakngaaDoor
open Go Fp
set_option maxRecDepth 10000
set_option maxHeartbeats 8000000
set_option linter.unusedVariables false
set_option linter.unusedSimpArgs false

def allZ (f : PR → Ev → Bool) : List PR → List Ev → Bool
  | [], [] => true
  | p :: l, v :: ks => f p v && allZ f l ks
  | _, _ => false
noncomputable def chkE (m : List Cl) (is : List In) (g : List PR) : Nat → PR → Ev → Bool
  | 0, _, _ => false
  | n + 1, x, .mk f k ks => if tldE m is g n (.mk f k ks) = false ∨ clsE m is g (n + 1) (.mk f k ks) ≠ x.cls then false else
      if f = 1 then (decide (ks.length = 0) && decide ((g.getD k.toNat zPR).ty = x.ty)) else
      if f = 2 then match ks with
        | [v] => chkE m is g n ⟨clsE m is g n v, x.ty⟩ v
        | _ => false
      else match needsE (is.getD k.toNat zIn) x.ty with
        | some l => decide (l.length = ks.length) && allZ (chkE m is g n) l ks
        | none => false
theorem chkE_succ (m : List Cl) (is : List In) (g : List PR) (n : Nat) (x : PR) (f k : Int) (ks : List Ev) : chkE m is g (n + 1) x (.mk f k ks) = if tldE m is g n (.mk f k ks) = false ∨ clsE m is g (n + 1) (.mk f k ks) ≠ x.cls then false else
      if f = 1 then (decide (ks.length = 0) && decide ((g.getD k.toNat zPR).ty = x.ty)) else
      if f = 2 then match ks with
        | [v] => chkE m is g n ⟨clsE m is g n v, x.ty⟩ v
        | _ => false
      else match needsE (is.getD k.toNat zIn) x.ty with
        | some l => decide (l.length = ks.length) && allZ (chkE m is g n) l ks
        | none => false := by
  match ks with
  | [] => rfl
  | [v] => rfl
  | a :: b :: r => rfl
theorem tld_of {m : List Cl} {is : List In} {g : List PR} {n : Nat} {f k : Int} {ks : List Ev} (h : tldE m is g n (.mk f k ks) = true) : ¬ k < 0 ∧ ((f = 1 ∧ k < g.length) ∨ (f = 3 ∧ k < is.length) ∨ (f = 2 ∧ ∃ v, ks = [v] ∧ (supAt m (clsE m is g n v) k).isSome = true)) := by
  rw [tldE_eq] at h
  split at h
  · cases h
  · rename_i h0
    refine ⟨h0, ?_⟩
    split at h
    · exact .inl ⟨by assumption, of_decide_eq_true h⟩
    · split at h
      · exact .inr (.inl ⟨by assumption, of_decide_eq_true h⟩)
      · split at h
        · split at h
          · exact .inr (.inr ⟨by assumption, _, rfl, h⟩)
          · cases h
        · cases h
section
variable (m : List Cl) (mm : List (AV × AV)) (is : List In) (hs : ∀ c ∈ m, c.sup.length < 1000) (hmt : ∀ c ∈ m, c.mth.length < 1000) (hi : is.length < 20000) (hy : ∀ y ∈ is, WIn y) (g : List PR) (hgn : ∀ q ∈ g, nA q.ty ∧ q.ty.sz < 1000000)
include hs hmt hi hy hgn
theorem check_ok : ∀ (n : Nat) (x : PR) (v : Ev), Dp n v → nA x.ty → x.ty.sz < 1000000 → ACall Tryd.prog n_entail_Check [eEnv m mm is, .sl (ePrs g), ePr x, eV v] (.sb (chkE m is g n x v)) := by
  intro n
  induction n with
  | zero => intro x v h; exact h.elim
  | succ n ih =>
    rintro x ⟨f, k, ks⟩ hD hx hxz
    have hT := told_ok m mm is hs hmt hi g n (.mk f k ks) hD
    have hC := classV_ok m mm is hs hmt hi g (n + 1) (.mk f k ks) hD
    obtain ⟨R, hR'⟩ : ∃ R, R = chkE m is g (n + 1) x (.mk f k ks) := ⟨_, rfl⟩
    rw [← hR']
    have hR := (chkE_succ m is g n x f k ks).symm.trans hR'.symm
    clear hR'
    have ht := tld_of (m := m) (is := is) (g := g) (n := n) (f := f) (k := k) (ks := ks)
    refine acall_of_wcx ttok mixed Tryd.func17 rfl (by rfl) (Nat.le_of_ble_eq_true rfl) (by kernel_rfl) ?_
    refine .inl ⟨_, hT, ?_⟩
    cases hb : tldE m is g n (.mk f k ks) with
    | false =>
      rw [if_pos (.inl hb)] at hR
      subst hR
      refine ⟨fun hbs => ?_, fun hbs => ?_⟩ <;> first | (exfalso; revert hbs; (simp); done) | skip
      refine ⟨by kernel_rfl, ?_⟩
      exact rfl
    | true =>
      obtain ⟨h0, hf⟩ := ht hb
      refine ⟨fun hbs => ?_, fun hbs => ?_⟩ <;> first | (exfalso; revert hbs; (simp); done) | skip
      refine .inl ⟨_, hC, ?_⟩
      refine ⟨by kernel_rfl, ?_⟩
      by_cases hc : clsE m is g (n + 1) (.mk f k ks) = x.cls
      · rw [if_neg (fun h => h.elim (fun h => by rw [hb] at h; cases h) (fun h => h hc))] at hR
        refine ⟨fun hbs => ?_, fun hbs => ?_⟩ <;> first | (exfalso; revert hbs; (simp [hc]); done) | skip
        rcases hf with ⟨h1, hk⟩ | ⟨h3, hk⟩ | ⟨h2, v, hv, hsup⟩
        · rw [if_pos h1] at hR
          refine ⟨fun hbs => ?_, fun hbs => ?_⟩ <;> first | (exfalso; revert hbs; (simp [fE, h1]); done) | skip
          cases ks with
          | nil =>
            refine ⟨fun hbs => ?_, fun hbs => ?_⟩ <;> first | (exfalso; revert hbs; (simp [eEvs_len, kE]); done) | skip
            have hm : g.getD k.toNat zPR ∈ g := by
              rw [List.getD_eq_getElem?_getD, List.getElem?_eq_getElem (by omega)]; exact List.getElem_mem _
            refine ⟨_, by show 0 ≤ k; omega, getD_pr h0 hk, rfl, ?_⟩
            have hS := sameT_ok (g.getD k.toNat zPR).ty x.ty (by have := (hgn _ hm).2; omega)
            rw [smb_nA _ _ (hgn _ hm).1 hx] at hS
            refine .inl ⟨_, hS, ?_⟩
            refine ⟨by kernel_rfl, ?_⟩
            simp only [List.length_nil, decide_true, Bool.true_and] at hR
            subst hR
            exact rfl
          | cons a r =>
            simp at hR
            subst hR
            refine ⟨fun hbs => ?_, fun hbs => ?_⟩ <;> first | (exfalso; revert hbs; (intro h; have h := of_decide_eq_true h; simp [eEvs_len, kE] at h; omega); done) | skip
            refine ⟨by kernel_rfl, ?_⟩
            exact rfl
        · rw [if_neg (by omega), if_neg (by omega)] at hR
          refine ⟨fun hbs => ?_, fun hbs => ?_⟩ <;> first | (exfalso; revert hbs; (simp [fE, h3]); done) | skip
          refine ⟨fun hbs => ?_, fun hbs => ?_⟩ <;> first | (exfalso; revert hbs; (simp [fE, h3]); done) | skip
          refine .inl ⟨_, at_int m mm is hi h0 hk, ?_⟩
          have hm : is.getD k.toNat zIn ∈ is := by
            rw [List.getD_eq_getElem?_getD, List.getElem?_eq_getElem (by omega)]; exact List.getElem_mem _
          have hyk := hy _ hm
          have hkid := fun l => needs_kids hyk hx (l := l)
          have hNe := needsE_ok (is.getD k.toNat zIn) hyk.ok x.ty hxz
          have hfew : ∀ l, needsE (is.getD k.toNat zIn) x.ty = some l → l.length < 100000 := fun l h => by
            unfold needsE at h
            split at h
            · injection h with h; subst h; rw [List.length_map]; exact hyk.ok.few
            · cases h
          revert hR hNe hkid hfew
          generalize needsE (is.getD k.toNat zIn) x.ty = o
          intro hR hkid hNe hfew
          refine .inl ⟨_, hNe, ?_⟩
          refine ⟨by kernel_rfl, ?_⟩
          cases o with
          | none =>
            subst hR
            refine ⟨fun hbs => ?_, fun hbs => ?_⟩ <;> first | (exfalso; revert hbs; (simp); done) | skip
            exact rfl
          | some l =>
            simp only at hR
            have hkid := hkid l rfl
            have hfew := hfew l rfl
            refine ⟨fun hbs => ?_, fun hbs => ?_⟩ <;> first | (exfalso; revert hbs; (simp); done) | skip
            by_cases hl : l.length = ks.length
            · simp only [hl, decide_true, Bool.true_and] at hR
              refine ⟨fun hbs => ?_, fun hbs => ?_⟩ <;> first | (exfalso; revert hbs; (simp [ePrs, eEvs_len, kE, hl]); done) | skip
              refine ⟨{j : Nat // j ≤ l.length ∧ R = allZ (chkE m is g n) (l.drop j) (ks.drop j)}, fun j => { vs := [(0, .v (eEnv m mm is)), (1, .v (.sl (ePrs g))), (6, .box 0 (ePr x)), (7, .box 0 (eV (.mk f k ks))), (9, .v (.sl (ePrs l))), (85, sv (l.length : Nat)), (86, sv (j.1 : Nat))] },
                fun j => l.length - j.1, ⟨0, Nat.zero_le _, hR.symm⟩, ⟨⟨rfl, rfl, rfl, rfl, rfl, svc (by simp [ePrs]), rfl, trivial⟩, trivial, rfl⟩, ?_⟩
              rintro ⟨j, hj, hinv⟩
              refine ⟨fun h => ?_, fun h => ?_⟩
              · have h : j < l.length := by have h : (j : Int) < (l.length : Nat) := of_decide_eq_true h; omega
                have h' : j < ks.length := by omega
                rw [List.drop_eq_getElem_cons h, List.drop_eq_getElem_cons h', allZ] at hinv
                refine ⟨_, by omega, getPr h, rfl, ?_⟩
                refine ⟨_, by omega, getEv h', rfl, ?_⟩
                obtain ⟨k1, k2⟩ := hkid _ (List.getElem_mem h)
                refine .inl ⟨_, ih l[j] ks[j] (hD _ (List.getElem_mem h')) k1 (by omega), ?_⟩
                refine ⟨by kernel_rfl, ?_⟩
                cases hq : chkE m is g n l[j] ks[j] with
                | false =>
                  rw [hq, Bool.false_and] at hinv
                  subst hinv
                  refine ⟨fun hbs => ?_, fun hbs => ?_⟩ <;> first | (exfalso; revert hbs; (simp); done) | skip
                  exact rfl
                | true =>
                  rw [hq, Bool.true_and] at hinv
                  refine ⟨fun hbs => ?_, fun hbs => ?_⟩ <;> first | (exfalso; revert hbs; (simp); done) | skip
                  exact ⟨⟨j + 1, h, hinv⟩, (show l.length - (j + 1) < l.length - j by omega), ⟨rfl, rfl, rfl, rfl, rfl, rfl, svc (wrap_succ (k := j) (by omega)), trivial⟩, trivial, rfl⟩
              · have h : j = l.length := by have h : ¬ (j : Int) < (l.length : Nat) := of_decide_eq_false h; omega
                subst h
                rw [List.drop_length, List.drop_of_length_le (by omega), allZ] at hinv
                subst hinv
                exact rfl
            · rw [decide_eq_false hl, Bool.false_and] at hR
              subst hR
              refine ⟨fun hbs => ?_, fun hbs => ?_⟩ <;> first | (exfalso; revert hbs; (simp [ePrs, eEvs_len, kE, hl]; omega); done) | skip
              exact rfl
        · subst hv
          rw [if_neg (by omega), if_pos h2] at hR
          simp only at hR
          refine ⟨fun hbs => ?_, fun hbs => ?_⟩ <;> first | (exfalso; revert hbs; (simp [fE, h2]); done) | skip
          refine ⟨fun hbs => ?_, fun hbs => ?_⟩ <;> first | (exfalso; revert hbs; (simp [fE, h2]); done) | skip
          refine ⟨_, by omega, getEv (l := [v]) (k := 0) (by simp), rfl, ?_⟩
          refine .inl ⟨_, classV_ok m mm is hs hmt hi g n v (hD v (by simp)), ?_⟩
          refine ⟨_, by omega, getEv (l := [v]) (k := 0) (by simp), rfl, ?_⟩
          refine .inl ⟨_, ih ⟨clsE m is g n v, x.ty⟩ v (hD v (by simp)) hx hxz, ?_⟩
          refine ⟨by kernel_rfl, ?_⟩
          subst hR
          exact rfl
      · rw [if_pos (.inr hc)] at hR
        subst hR
        refine ⟨fun hbs => ?_, fun hbs => ?_⟩ <;> first | (exfalso; revert hbs; (simp [hc]); done) | skip
        exact rfl
end
end Go.Proofs.YtkhnjmbgkakngaaDoor
