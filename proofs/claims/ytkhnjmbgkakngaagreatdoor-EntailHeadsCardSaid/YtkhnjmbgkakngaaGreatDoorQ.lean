/- Heads by which predicates hold, in plain Lean. -/
import Derived.Test.YtkhnjmbgkakngaaGreatDoorN
import Derived.Test.YtkhnjmbgkakngaaGreatDoorP
set_option linter.unusedSimpArgs false
set_option linter.unusedVariables false
namespace Go.Proofs.YtkhnjmbgkakngaaGreatDoor
open Go Fp
set_option maxRecDepth 10000
set_option linter.unusedVariables false
set_option linter.unusedSimpArgs false

def onE (p q : PR) : Bool := decide (p.cls = q.cls) && decide (p.ty = q.ty)
theorem onE_iff {p q : PR} : onE p q = true ↔ p = q := by
  unfold onE
  rw [Bool.and_eq_true, decide_eq_true_eq, decide_eq_true_eq]
  constructor
  · rintro ⟨h1, h2⟩; cases p; cases q; simp_all
  · rintro rfl; exact ⟨rfl, rfl⟩
def hasP (q : PR) (o : List PR) : Bool := o.any fun x => onE x q
theorem hasP_iff {q : PR} {o : List PR} : hasP q o = true ↔ q ∈ o := by
  unfold hasP
  rw [List.any_eq_true]
  constructor
  · rintro ⟨x, h1, h2⟩; rw [← onE_iff.1 h2]; exact h1
  · exact fun h => ⟨q, h, onE_iff.2 rfl⟩
def insP (o : List PR) (q : PR) : List PR := if hasP q o = true then o else o ++ [q]
def dd (o l : List PR) : List PR := l.foldl insP o
theorem mem_insP {o : List PR} {q x : PR} : x ∈ insP o q ↔ x ∈ o ∨ x = q := by
  unfold insP
  split
  · rename_i h
    have := hasP_iff.1 h
    exact ⟨.inl, fun h => h.elim id (fun e => e ▸ this)⟩
  · simp
theorem mem_dd {x : PR} : ∀ {l o : List PR}, x ∈ dd o l ↔ x ∈ o ∨ x ∈ l
  | [], o => by simp [dd]
  | q :: l, o => by
    show x ∈ dd (insP o q) l ↔ _
    rw [mem_dd, mem_insP, List.mem_cons, or_assoc]
theorem dd_app (o a b : List PR) : dd o (a ++ b) = dd (dd o a) b := by unfold dd; rw [List.foldl_append]
theorem dd_insP (out acc : List PR) (q : PR) : dd out (insP acc q) = insP (dd out acc) q := by
  unfold insP
  by_cases h : hasP q acc = true
  · rw [if_pos h, if_pos (hasP_iff.2 (mem_dd.2 (.inr (hasP_iff.1 h))))]
  · rw [if_neg h, dd_app]; rfl
theorem dd_dd : ∀ (l out acc : List PR), dd out (dd acc l) = dd (dd out acc) l
  | [], out, acc => rfl
  | q :: l, out, acc => by
    show dd out (dd (insP acc q) l) = dd (insP (dd out acc) q) l
    rw [dd_dd l, dd_insP]
theorem dd_nil (out l : List PR) : dd out (dd [] l) = dd out l := by rw [dd_dd]; rfl
theorem insP_len (o : List PR) (q : PR) : (insP o q).length ≤ o.length + 1 := by unfold insP; split <;> simp
theorem dd_len : ∀ (l o : List PR), (dd o l).length ≤ o.length + l.length
  | [], o => by simp [dd]
  | q :: l, o => by
    show (dd (insP o q) l).length ≤ _
    have h1 := dd_len l (insP o q)
    have h2 := insP_len o q
    simp only [List.length_cons]; omega
theorem dd_one (o : List PR) (q : PR) : dd o [q] = insP o q := rfl

def catO (f : PR → Option (List PR)) : List PR → Option (List PR)
  | [] => some []
  | q :: r => match f q with
    | none => none
    | some m => (catO f r).map (m ++ ·)
noncomputable def hdP (is : List In) : Nat → PR → Option (List PR)
  | 0, _ => none
  | n + 1, x => if (spHd x.ty).form = 1 ∨ (spHd x.ty).form = 2 then some [x] else match instE is x with
    | none => none
    | some (_, l) => catO (hdP is n) l
theorem catO_all {f : PR → Option (List PR)} {P : PR → Prop} : ∀ {l m : List PR}, (∀ q ∈ l, ∀ m, f q = some m → ∀ y ∈ m, P y) → catO f l = some m → ∀ y ∈ m, P y
  | [], m, _, h, y, hy => by injection h with h; subst h; simp at hy
  | q :: l, m, hf, h, y, hy => by
    rw [catO] at h
    split at h
    · cases h
    · rename_i m1 hm1
      obtain ⟨m2, h1, h2⟩ := Option.map_eq_some_iff.1 h
      subst h2
      rcases List.mem_append.1 hy with hy | hy
      · exact hf q List.mem_cons_self m1 hm1 y hy
      · exact catO_all (fun q hq => hf q (List.mem_cons_of_mem _ hq)) h1 y hy
theorem catO_len {f : PR → Option (List PR)} {B : Nat} : ∀ {l m : List PR}, (∀ q ∈ l, ∀ m, f q = some m → m.length ≤ B) → catO f l = some m → m.length ≤ l.length * B
  | [], m, _, h => by injection h with h; subst h; simp
  | q :: l, m, hf, h => by
    rw [catO] at h
    split at h
    · cases h
    · rename_i m1 hm1
      obtain ⟨m2, h1, h2⟩ := Option.map_eq_some_iff.1 h
      subst h2
      have := hf q List.mem_cons_self m1 hm1
      have := catO_len (fun q hq => hf q (List.mem_cons_of_mem _ hq)) h1
      simp only [List.length_append, List.length_cons, Nat.add_mul]; omega
theorem hdP_len {is : List In} (hy : ∀ y ∈ is, SmlI y) : ∀ (h n : Nat) (x : PR) (m : List PR), hgt x.ty ≤ h → hdP is n x = some m → m.length ≤ 4 ^ h
  | h, 0, x, m, _, hm => by simp [hdP] at hm
  | h, n + 1, x, m, hx, hm => by
    have hp : 1 ≤ 4 ^ h := Nat.one_le_pow _ _ (by decide)
    rw [hdP] at hm
    split at hm
    · injection hm with hm; subst hm; simpa using hp
    · split at hm
      · cases hm
      · rename_i k l hE
        obtain ⟨h1, _, h3⟩ := inst_hgt hy hE
        cases h with
        | zero =>
          have : l = [] := by
            cases l with
            | nil => rfl
            | cons q r => have := h3 q List.mem_cons_self; omega
          subst this
          injection hm with hm; subst hm; simp
        | succ h =>
          have := catO_len (B := 4 ^ h) (fun q hq m hm => hdP_len hy h n q m (by have := h3 q hq; omega) hm) hm
          rw [Nat.pow_succ]
          have := Nat.mul_le_mul_right (4 ^ h) h1
          omega
/-- Small predicates. -/
def PlS (l : List PR) : Prop := ∀ q ∈ l, nA q.ty ∧ q.ty.sz ≤ 29 ∧ hgt q.ty ≤ 6
theorem prd_plS {l : List Int} (hr : ∀ x ∈ l, InR x) (n : Nat) : PlS (prd n (l.take 30)) := fun q hq => by
  have h := prd_sml n (l := l.take 30) (by rw [List.length_take]; omega) (fun x hx => hr x (List.mem_of_mem_take hx)) q hq
  exact ⟨h.na, by have := h.sz; omega, by have := h.hb; omega⟩
theorem inst_plS {is : List In} (hy : ∀ y ∈ is, SmlI y) {x : PR} (hx : nA x.ty ∧ x.ty.sz ≤ 29 ∧ hgt x.ty ≤ 6) {k : Nat} {l : List PR} (h : instE is x = some (k, l)) : l.length ≤ 4 ∧ (∀ q ∈ l, q.ty.sz < x.ty.sz) ∧ PlS l := by
  obtain ⟨h1, _, h3⟩ := inst_hgt hy h
  obtain ⟨_, _, h4⟩ := inst_kids (fun y hm => (hy y hm).win) hx.1 h
  exact ⟨h1, fun q hq => (h4 q hq).2, fun q hq => ⟨(h4 q hq).1, by have := (h4 q hq).2; omega, by have := h3 q hq; omega⟩⟩
theorem hdP_plS {is : List In} (hy : ∀ y ∈ is, SmlI y) : ∀ (n : Nat) (x : PR) (m : List PR), nA x.ty ∧ x.ty.sz ≤ 29 ∧ hgt x.ty ≤ 6 → hdP is n x = some m → PlS m
  | 0, x, m, _, hm => by simp [hdP] at hm
  | n + 1, x, m, hx, hm => by
    rw [hdP] at hm
    split at hm
    · injection hm with hm; subst hm; intro q hq; simp at hq; subst hq; exact hx
    · split at hm
      · cases hm
      · rename_i k l hE
        exact catO_all (fun q hq m hm => hdP_plS hy n q m ((inst_plS hy hx hE).2.2 q hq) hm) hm
/-- The fuel does not tell, if it lasts. -/
theorem catO_eq {f g : PR → Option (List PR)} : ∀ {l : List PR}, (∀ q ∈ l, f q = g q) → catO f l = catO g l
  | [], _ => rfl
  | q :: l, h => by rw [catO, catO, h q List.mem_cons_self, catO_eq fun q hq => h q (List.mem_cons_of_mem _ hq)]
end Go.Proofs.YtkhnjmbgkakngaaGreatDoor

namespace Go.Proofs.YtkhnjmbgkakngaaGreatDoor
open Go Fp
set_option maxRecDepth 10000
set_option maxHeartbeats 8000000
set_option linter.unusedVariables false
set_option linter.unusedSimpArgs false

theorem one_ok (p q : PR) (hp : nA p.ty ∧ p.ty.sz ≤ 29) (hq : nA q.ty) : ACall Tryz.prog n_entail_one [ePr p, ePr q] (.sb (onE p q)) := by
  have hS := sameT_ok p.ty q.ty (by omega)
  rw [smb_nA _ _ hp.1 hq] at hS
  unfold onE
  refine acall_of_wcx ttok mixed Tryz.func47 rfl (by rfl) (Nat.le_of_ble_eq_true rfl) (by kernel_rfl) ?_
  by_cases h1 : p.cls = q.cls
  · refine ⟨fun hbs => ?_, fun hbs => ?_⟩ <;> first | (exfalso; revert hbs; (simp [h1]); done) | skip
    refine .inl ⟨_, hS, ?_⟩
    rw [decide_eq_true h1, Bool.true_and]
    exact rfl
  · refine ⟨fun hbs => ?_, fun hbs => ?_⟩ <;> first | (exfalso; revert hbs; (simp [h1]); done) | skip
    rw [decide_eq_false h1, Bool.false_and]
    exact rfl
theorem headC_ok (p q : PR) (hp : nA p.ty ∧ p.ty.sz ≤ 29) (hq : nA q.ty) : ACall Tryz.prog 46 [ePr p, .ptr (ePr q).cells] (.sb (onE p q)) := by
  refine acall_of_wcx ttok mixed Tryz.func46 rfl (by rfl) (Nat.le_of_ble_eq_true rfl) (by kernel_rfl) ?_
  refine .inl ⟨_, one_ok p q hp hq, ?_⟩
  exact rfl
theorem ixPr_ok (l : List PR) (hl : l.length < 100000) (hp : PlS l) (q : PR) (hq : nA q.ty) : ACall Tryz.prog 80 [.sl (ePrs l), .fn (.func 46) [] [.ptr (ePr q).cells]] (.lit (.int .i64 (ixP (fun x => onE x q) l))) := by
  refine acall_of_wcx ttok mixed Tryz.func80 rfl (by rfl) (Nat.le_of_ble_eq_true rfl) (by kernel_rfl) ?_
  refine ⟨{k : Nat // k ≤ l.length ∧ ∀ j (hj : j < l.length), j < k → onE l[j] q = false}, fun k => { vs := [(0, .v (.sl (ePrs l))), (1, .v (.fn (.func 46) [] [.ptr (ePr q).cells])), (7, sv (l.length : Nat)), (8, sv (k.1 : Nat))] },
    fun k => l.length - k.1, ⟨0, Nat.zero_le _, fun j hj h => by omega⟩, ⟨⟨rfl, rfl, svc (by simp [ePrs]), rfl, trivial⟩, trivial, rfl⟩, ?_⟩
  rintro ⟨k, hk, hinv⟩
  refine ⟨fun h => ?_, fun h => ?_⟩
  · have h : k < l.length := by have h : (k : Int) < (l.length : Nat) := of_decide_eq_true h; omega
    refine ⟨ePr l[k], by omega, getPr h, rfl, ?_⟩
    have hpk := hp l[k] (List.getElem_mem h)
    refine .inl ⟨_, headC_ok l[k] q ⟨hpk.1, hpk.2.1⟩ hq, ?_⟩
    refine ⟨fun hp => ?_, fun hp => ?_⟩
    · have e : ixP (fun x => onE x q) l = (k : Nat) := by
        unfold ixP
        rw [List.findIdx?_eq_some_iff_getElem.2 ⟨h, hp, fun j hj => by simp [hinv j (by omega) hj]⟩]
      rw [e]; exact rfl
    · refine ⟨⟨k + 1, h, fun j hj hjk => ?_⟩, (show l.length - (k + 1) < l.length - k by omega), ⟨rfl, rfl, rfl, svc (wrap_succ (k := k) (by omega)), trivial⟩, trivial, rfl⟩
      by_cases hjk2 : j = k
      · subst hjk2; exact hp
      · exact hinv j hj (by omega)
  · have h : k = l.length := by have h : ¬ (k : Int) < (l.length : Nat) := of_decide_eq_false h; omega
    have e : ixP (fun x => onE x q) l = -1 := by
      unfold ixP
      rw [List.findIdx?_eq_none_iff.2 fun x hx => by
        obtain ⟨j, hj, rfl⟩ := List.mem_iff_getElem.1 hx
        exact hinv j hj (by omega)]
    rw [e]; exact rfl
theorem ixP_has (q : PR) (l : List PR) : decide ((0 : Int) ≤ ixP (fun x => onE x q) l) = hasP q l := by
  unfold ixP hasP
  cases h : l.findIdx? (fun x => onE x q) with
  | none =>
    have := List.findIdx?_eq_none_iff.1 h
    have e : (l.any fun x => onE x q) = false := by
      rw [List.any_eq_false]
      exact fun x hx => by simp [this x hx]
    rw [e]; rfl
  | some i =>
    obtain ⟨h1, h2, _⟩ := List.findIdx?_eq_some_iff_getElem.1 h
    have e : (l.any fun x => onE x q) = true := List.any_eq_true.2 ⟨_, List.getElem_mem h1, h2⟩
    rw [e]
    exact decide_eq_true (by show (0 : Int) ≤ (i : Nat); omega)
theorem containsP_ok (l : List PR) (hl : l.length < 100000) (hp : PlS l) (q : PR) (hq : nA q.ty) : ACall Tryz.prog 45 [.sl (ePrs l), .fn (.func 46) [] [.ptr (ePr q).cells]] (.sb (hasP q l)) := by
  refine acall_of_wcx ttok mixed Tryz.func45 rfl (by rfl) (Nat.le_of_ble_eq_true rfl) (by kernel_rfl) ?_
  refine .inl ⟨_, ixPr_ok l hl hp q hq, ?_⟩
  rw [← ixP_has]
  exact rfl
theorem sub_nil : ∀ {t : Tp}, nA t → sub t [] = t
  | .app a b, h => by rw [sub, sub_nil h.1, sub_nil h.2]
  | .var s, _ => rfl
  | .no, _ | .mt _, _ | .con _, _ => by simp only [sub]
theorem putN_ok (p : PR) (hp : nA p.ty) : ACall Tryz.prog n_entail_put [ePr p, .sl [], .sl []] (ePr p) := by
  have := put_ok' p [] (by decide) hp
  unfold putP at this
  rw [sub_nil hp] at this
  exact this
noncomputable def hdR : Option (List PR) → AV
  | some m => .tup [.sl (ePrs m), .lit (.int .i64 0)]
  | none => .tup [.sl [], .lit (.int .i64 33)]
theorem form_get (t : Tp) : ∃ r, eTy t = .agg (.lit (.int .i64 t.form) :: r) := by cases t <;> exact ⟨_, rfl⟩
end Go.Proofs.YtkhnjmbgkakngaaGreatDoor

namespace Go.Proofs.YtkhnjmbgkakngaaGreatDoor
open Go Fp
set_option maxRecDepth 10000
set_option maxHeartbeats 8000000
set_option linter.unusedVariables false
set_option linter.unusedSimpArgs false

theorem dd_plS {o l : List PR} (ho : PlS o) (hl : PlS l) : PlS (dd o l) := fun q hq => (mem_dd.1 hq).elim (ho q) (hl q)
theorem dropDd {o l : List PR} {j : Nat} (h : j < l.length) : dd o (l.drop j) = dd (insP o l[j]) (l.drop (j + 1)) := by
  rw [List.drop_eq_getElem_cons h]; rfl
theorem ps4 : (4 : Nat) ^ 6 = 4096 := by decide
section
variable (m : List Cl) (mm : List (AV × AV)) (is : List In) (hi : is.length < 20000) (hy : ∀ y ∈ is, SmlI y)
include hi hy
theorem head_ok : ∀ (n : Nat) (l : List PR), PlS l → (∀ q ∈ l, q.ty.sz < n) → l.length ≤ 8 → ACall Tryz.prog n_entail_Head [eEnv m mm is, .sl (ePrs l)] (hdR ((catO (hdP is n) l).map (dd []))) := by
  intro n
  induction n with
  | zero =>
    intro l hl hn hl8
    have : l = [] := by
      cases l with
      | nil => rfl
      | cons q r => have := hn q List.mem_cons_self; omega
    subst this
    refine acall_of_wcx ttok mixed Tryz.func14 rfl (by rfl) (Nat.le_of_ble_eq_true rfl) (by kernel_rfl) ?_
    refine ⟨{k : Nat // k = 0}, fun k => { vs := [(0, .v (eEnv m mm is)), (6, .v (.sl [])), (18, .v (.sl (ePrs []))), (19, sv 0), (20, sv 0)] },
      fun k => 0, ⟨0, rfl⟩, ⟨⟨rfl, rfl, rfl, rfl, rfl, trivial⟩, trivial, rfl⟩, ?_⟩
    rintro ⟨k, rfl⟩
    refine ⟨fun hbs => ?_, fun hbs => ?_⟩ <;> first | (exfalso; revert hbs; (simp); done) | skip
    exact rfl
  | succ n ih =>
    intro l hl hn hl8
    generalize hR : hdR ((catO (hdP is (n + 1)) l).map (dd [])) = R
    have hok : ∀ q ∈ l, ∀ mr, hdP is (n + 1) q = some mr → PlS mr ∧ mr.length ≤ 4096 := fun q hq mr hm => by
      refine ⟨hdP_plS hy (n + 1) q mr (hl q hq) hm, ?_⟩
      have := hdP_len hy 6 (n + 1) q mr (hl q hq).2.2 hm
      rwa [ps4] at this
    refine acall_of_wcx ttok mixed Tryz.func14 rfl (by rfl) (Nat.le_of_ble_eq_true rfl) (by kernel_rfl) ?_
    refine ⟨{p : Nat × List PR // p.1 ≤ l.length ∧ PlS p.2 ∧ p.2.length ≤ p.1 * 4096 ∧ R = hdR ((catO (hdP is (n + 1)) (l.drop p.1)).map (dd p.2))}, fun p => { vs := [(0, .v (eEnv m mm is)), (6, .v (.sl (ePrs p.1.2))), (18, .v (.sl (ePrs l))), (19, sv (l.length : Nat)), (20, sv (p.1.1 : Nat))], ow := [(6, 0, 6)] },
      fun p => l.length - p.1.1, ⟨(0, []), Nat.zero_le _, fun q hq => by simp at hq, Nat.zero_le _, hR.symm⟩, ⟨⟨rfl, rfl, rfl, svc (by simp [ePrs]), rfl, trivial⟩, ⟨trivial, trivial⟩, rfl⟩, ?_⟩
    rintro ⟨⟨k, out⟩, hk, hpo, hlo, hinv⟩
    simp only at hk hpo hlo hinv
    refine ⟨fun h => ?_, fun h => ?_⟩
    · have h : k < l.length := by have h : (k : Int) < (l.length : Nat) := of_decide_eq_true h; omega
      have hx := hl _ (List.getElem_mem h)
      have hok := hok _ (List.getElem_mem h)
      have hxn := hn _ (List.getElem_mem h)
      have hgx := getPr h
      have hk' : l.length - (k + 1) < l.length - k := by omega
      rw [List.drop_eq_getElem_cons h, catO] at hinv
      generalize l[k] = x at *
      refine ⟨_, by omega, hgx, rfl, ?_⟩
      refine .inl ⟨_, putN_ok x hx.1, ?_⟩
      refine .inl ⟨_, spine_ok x.ty (by omega), ?_⟩
      have hap : ∀ (m1 : List PR) (X : Option (List PR)), (X.map (m1 ++ ·)).map (dd out) = X.map (dd (dd out m1)) := fun m1 X => by cases X <;> simp [dd_app]
      by_cases hf2 : (spHd x.ty).form = 2
      · refine ⟨fun hbs => ?_, fun hbs => ?_⟩ <;> first | (exfalso; revert hbs; (simp [hf2]); done) | skip
        have hv : hdP is (n + 1) x = some [x] := by rw [hdP, if_pos (.inr hf2)]
        obtain ⟨hmp, hml⟩ := hok _ hv
        rw [hv] at hinv
        simp only [hap] at hinv
        have hmr := hinv
        refine ⟨{p : Nat × List PR // p.1 ≤ ([x]).length ∧ PlS p.2 ∧ p.2.length ≤ k * 4096 + p.1 ∧ dd out ([x]) = dd p.2 (([x]).drop p.1)}, fun p => { vs := [(0, .v (eEnv m mm is)), (6, .v (.sl (ePrs p.1.2))), (18, .v (.sl (ePrs l))), (19, sv (l.length : Nat)), (20, sv (k : Nat)), (59, .v (.sl (ePrs ([x])))), (60, sv (([x]).length : Nat)), (61, sv (p.1.1 : Nat))], ow := [(6, 0, 6)] },
          fun p => ([x]).length - p.1.1, ⟨(0, out), Nat.zero_le _, hpo, hlo, rfl⟩, ⟨⟨rfl, rfl, rfl, rfl, rfl, rfl, svc (by simp [ePrs]), rfl, trivial⟩, ⟨rfl, trivial⟩, rfl⟩, ?_⟩
        rintro ⟨⟨j, o2⟩, hj, hpo2, hlo2, hinv2⟩
        simp only at hj hpo2 hlo2 hinv2
        refine ⟨fun h2 => ?_, fun h2 => ?_⟩
        · have h2 : j < ([x]).length := by have h : (j : Int) < (([x]).length : Nat) := of_decide_eq_true h2; omega
          have hq := hmp _ (List.getElem_mem h2)
          have hgq := getPr h2
          have hn2 : ([x]).length - (j + 1) < ([x]).length - j := by omega
          rw [dropDd h2] at hinv2
          generalize ([x])[j] = q at *
          have hC := containsP_ok o2 (by omega) hpo2 q hq.1
          refine ⟨_, by omega, hgq, rfl, ?_⟩
          refine .inl ?_
          refine .inl ⟨_, hC, ?_⟩
          unfold insP at hinv2
          cases hh : hasP q o2 with
          | true =>
            rw [if_pos hh] at hinv2
            refine ⟨fun hbs => ?_, fun hbs => ?_⟩ <;> first | (exfalso; revert hbs; (simp); done) | skip
            exact ⟨⟨(j + 1, o2), h2, hpo2, by show o2.length ≤ _; omega, hinv2⟩, hn2, ⟨rfl, rfl, rfl, rfl, rfl, rfl, rfl, svc (wrap_succ (k := j) (by omega)), trivial⟩, ⟨rfl, trivial⟩, rfl⟩
          | false =>
            rw [if_neg (by simp [hh])] at hinv2
            refine ⟨fun hbs => ?_, fun hbs => ?_⟩ <;> first | (exfalso; revert hbs; (simp); done) | skip
            refine ⟨by show (ePrs o2).length + 1 ≤ 4294967296; simp [ePrs]; omega, uniPr _, uni1 rfl, ?_⟩
            refine ⟨⟨(j + 1, o2 ++ [q]), h2, fun y hy => ?_, by show (o2 ++ [q]).length ≤ _; simp; omega, hinv2⟩, hn2, ⟨rfl, ?_, rfl, rfl, rfl, rfl, rfl, svc (wrap_succ (k := j) (by omega)), trivial⟩, ⟨rfl, trivial⟩, rfl⟩
            · rcases List.mem_append.1 hy with hy | hy
              · exact hpo2 y hy
              · simp at hy; subst hy; exact hq
            · show SV.v (.sl (ePrs o2 ++ [ePr q])) = _
              rw [ePrs_snoc]
        · have h2 : j = ([x]).length := by have h : ¬ (j : Int) < (([x]).length : Nat) := of_decide_eq_false h2; omega
          subst h2
          rw [List.drop_length] at hinv2
          have hinv2 : dd out ([x]) = o2 := hinv2
          rw [hinv2] at hmr
          exact ⟨⟨(k + 1, o2), h, hpo2, by show o2.length ≤ (k + 1) * 4096; omega, hmr⟩, hk', ⟨rfl, rfl, rfl, rfl, svc (wrap_succ (k := k) (by omega)), trivial⟩, ⟨rfl, trivial⟩, rfl⟩
      · refine ⟨fun hbs => ?_, fun hbs => ?_⟩ <;> first | (exfalso; revert hbs; (simp [hf2]); done) | skip
        by_cases hf1 : (spHd x.ty).form = 1
        · refine ⟨fun hbs => ?_, fun hbs => ?_⟩ <;> first | (exfalso; revert hbs; (simp [hf1]); done) | skip
          have hv : hdP is (n + 1) x = some [x] := by rw [hdP, if_pos (.inl hf1)]
          obtain ⟨hmp, hml⟩ := hok _ hv
          rw [hv] at hinv
          simp only [hap] at hinv
          have hmr := hinv
          refine ⟨{p : Nat × List PR // p.1 ≤ ([x]).length ∧ PlS p.2 ∧ p.2.length ≤ k * 4096 + p.1 ∧ dd out ([x]) = dd p.2 (([x]).drop p.1)}, fun p => { vs := [(0, .v (eEnv m mm is)), (6, .v (.sl (ePrs p.1.2))), (18, .v (.sl (ePrs l))), (19, sv (l.length : Nat)), (20, sv (k : Nat)), (59, .v (.sl (ePrs ([x])))), (60, sv (([x]).length : Nat)), (61, sv (p.1.1 : Nat))], ow := [(6, 0, 6)] },
            fun p => ([x]).length - p.1.1, ⟨(0, out), Nat.zero_le _, hpo, hlo, rfl⟩, ⟨⟨rfl, rfl, rfl, rfl, rfl, rfl, svc (by simp [ePrs]), rfl, trivial⟩, ⟨rfl, trivial⟩, rfl⟩, ?_⟩
          rintro ⟨⟨j, o2⟩, hj, hpo2, hlo2, hinv2⟩
          simp only at hj hpo2 hlo2 hinv2
          refine ⟨fun h2 => ?_, fun h2 => ?_⟩
          · have h2 : j < ([x]).length := by have h : (j : Int) < (([x]).length : Nat) := of_decide_eq_true h2; omega
            have hq := hmp _ (List.getElem_mem h2)
            have hgq := getPr h2
            have hn2 : ([x]).length - (j + 1) < ([x]).length - j := by omega
            rw [dropDd h2] at hinv2
            generalize ([x])[j] = q at *
            have hC := containsP_ok o2 (by omega) hpo2 q hq.1
            refine ⟨_, by omega, hgq, rfl, ?_⟩
            refine .inl ?_
            refine .inl ⟨_, hC, ?_⟩
            unfold insP at hinv2
            cases hh : hasP q o2 with
            | true =>
              rw [if_pos hh] at hinv2
              refine ⟨fun hbs => ?_, fun hbs => ?_⟩ <;> first | (exfalso; revert hbs; (simp); done) | skip
              exact ⟨⟨(j + 1, o2), h2, hpo2, by show o2.length ≤ _; omega, hinv2⟩, hn2, ⟨rfl, rfl, rfl, rfl, rfl, rfl, rfl, svc (wrap_succ (k := j) (by omega)), trivial⟩, ⟨rfl, trivial⟩, rfl⟩
            | false =>
              rw [if_neg (by simp [hh])] at hinv2
              refine ⟨fun hbs => ?_, fun hbs => ?_⟩ <;> first | (exfalso; revert hbs; (simp); done) | skip
              refine ⟨by show (ePrs o2).length + 1 ≤ 4294967296; simp [ePrs]; omega, uniPr _, uni1 rfl, ?_⟩
              refine ⟨⟨(j + 1, o2 ++ [q]), h2, fun y hy => ?_, by show (o2 ++ [q]).length ≤ _; simp; omega, hinv2⟩, hn2, ⟨rfl, ?_, rfl, rfl, rfl, rfl, rfl, svc (wrap_succ (k := j) (by omega)), trivial⟩, ⟨rfl, trivial⟩, rfl⟩
              · rcases List.mem_append.1 hy with hy | hy
                · exact hpo2 y hy
                · simp at hy; subst hy; exact hq
              · show SV.v (.sl (ePrs o2 ++ [ePr q])) = _
                rw [ePrs_snoc]
          · have h2 : j = ([x]).length := by have h : ¬ (j : Int) < (([x]).length : Nat) := of_decide_eq_false h2; omega
            subst h2
            rw [List.drop_length] at hinv2
            have hinv2 : dd out ([x]) = o2 := hinv2
            rw [hinv2] at hmr
            exact ⟨⟨(k + 1, o2), h, hpo2, by show o2.length ≤ (k + 1) * 4096; omega, hmr⟩, hk', ⟨rfl, rfl, rfl, rfl, svc (wrap_succ (k := k) (by omega)), trivial⟩, ⟨rfl, trivial⟩, rfl⟩
        · refine ⟨fun hbs => ?_, fun hbs => ?_⟩ <;> first | (exfalso; revert hbs; (simp [hf1]); done) | skip
          have hv : hdP is (n + 1) x = match instE is x with
            | none => none
            | some (_, l) => catO (hdP is n) l := by rw [hdP, if_neg (by omega)] <;> rfl
          obtain ⟨n0, hI, hI2⟩ := instE_ok m mm is hi (fun y h => (hy y h).win.ok) x (by omega)
          have hip := fun (k : Nat) (l : List PR) => inst_plS hy (x := x) hx (k := k) (l := l)
          revert hI hv hip
          generalize instE is x = oi
          intro hv hI hip
          refine .inl ⟨_, hI, ?_⟩
          cases oi with
          | none =>
            simp only at hv
            rw [hv] at hinv
            simp only [Option.map_none] at hinv
            subst hinv
            refine ⟨fun hbs => ?_, fun hbs => ?_⟩ <;> first | (exfalso; revert hbs; (simp); done) | skip
            exact rfl
          | some kl =>
            obtain ⟨k0, l0⟩ := kl
            obtain ⟨i1, i2, i3⟩ := hip k0 l0 rfl
            simp only at hv
            have hH := ih l0 i3 (fun q hq => by have := i2 q hq; omega) (by omega)
            refine ⟨fun hbs => ?_, fun hbs => ?_⟩ <;> first | (exfalso; revert hbs; (simp); done) | skip
            rw [hv] at hinv hok
            revert hH hinv hok
            generalize catO (hdP is n) l0 = oc
            intro hok hinv hH
            refine .inl ⟨_, hH, ?_⟩
            cases oc with
            | none =>
              simp only [Option.map_none] at hinv
              subst hinv
              refine ⟨fun hbs => ?_, fun hbs => ?_⟩ <;> first | (exfalso; revert hbs; (simp); done) | skip
              exact rfl
            | some m1 =>
              obtain ⟨hmp1, hml1⟩ := hok m1 rfl
              simp only [hap] at hinv
              have hmp : PlS (dd [] m1) := dd_plS (fun q hq => by simp at hq) hmp1
              have hml : (dd [] m1).length ≤ 4096 := by have := dd_len m1 []; simp at this; omega
              rw [← dd_nil out m1] at hinv
              have hmr := hinv
              refine ⟨fun hbs => ?_, fun hbs => ?_⟩ <;> first | (exfalso; revert hbs; (simp); done) | skip
              refine ⟨{p : Nat × List PR // p.1 ≤ (dd [] m1).length ∧ PlS p.2 ∧ p.2.length ≤ k * 4096 + p.1 ∧ dd out (dd [] m1) = dd p.2 ((dd [] m1).drop p.1)}, fun p => { vs := [(0, .v (eEnv m mm is)), (6, .v (.sl (ePrs p.1.2))), (18, .v (.sl (ePrs l))), (19, sv (l.length : Nat)), (20, sv (k : Nat)), (59, .v (.sl (ePrs (dd [] m1)))), (60, sv ((dd [] m1).length : Nat)), (61, sv (p.1.1 : Nat))], ow := [(6, 0, 6)] },
                fun p => (dd [] m1).length - p.1.1, ⟨(0, out), Nat.zero_le _, hpo, hlo, rfl⟩, ⟨⟨rfl, rfl, rfl, rfl, rfl, rfl, svc (by simp [ePrs]), rfl, trivial⟩, ⟨rfl, trivial⟩, rfl⟩, ?_⟩
              rintro ⟨⟨j, o2⟩, hj, hpo2, hlo2, hinv2⟩
              simp only at hj hpo2 hlo2 hinv2
              refine ⟨fun h2 => ?_, fun h2 => ?_⟩
              · have h2 : j < (dd [] m1).length := by have h : (j : Int) < ((dd [] m1).length : Nat) := of_decide_eq_true h2; omega
                have hq := hmp _ (List.getElem_mem h2)
                have hgq := getPr h2
                have hn2 : (dd [] m1).length - (j + 1) < (dd [] m1).length - j := by omega
                rw [dropDd h2] at hinv2
                generalize (dd [] m1)[j] = q at *
                have hC := containsP_ok o2 (by omega) hpo2 q hq.1
                refine ⟨_, by omega, hgq, rfl, ?_⟩
                refine .inl ?_
                refine .inl ⟨_, hC, ?_⟩
                unfold insP at hinv2
                cases hh : hasP q o2 with
                | true =>
                  rw [if_pos hh] at hinv2
                  refine ⟨fun hbs => ?_, fun hbs => ?_⟩ <;> first | (exfalso; revert hbs; (simp); done) | skip
                  exact ⟨⟨(j + 1, o2), h2, hpo2, by show o2.length ≤ _; omega, hinv2⟩, hn2, ⟨rfl, rfl, rfl, rfl, rfl, rfl, rfl, svc (wrap_succ (k := j) (by omega)), trivial⟩, ⟨rfl, trivial⟩, rfl⟩
                | false =>
                  rw [if_neg (by simp [hh])] at hinv2
                  refine ⟨fun hbs => ?_, fun hbs => ?_⟩ <;> first | (exfalso; revert hbs; (simp); done) | skip
                  refine ⟨by show (ePrs o2).length + 1 ≤ 4294967296; simp [ePrs]; omega, uniPr _, uni1 rfl, ?_⟩
                  refine ⟨⟨(j + 1, o2 ++ [q]), h2, fun y hy => ?_, by show (o2 ++ [q]).length ≤ _; simp; omega, hinv2⟩, hn2, ⟨rfl, ?_, rfl, rfl, rfl, rfl, rfl, svc (wrap_succ (k := j) (by omega)), trivial⟩, ⟨rfl, trivial⟩, rfl⟩
                  · rcases List.mem_append.1 hy with hy | hy
                    · exact hpo2 y hy
                    · simp at hy; subst hy; exact hq
                  · show SV.v (.sl (ePrs o2 ++ [ePr q])) = _
                    rw [ePrs_snoc]
              · have h2 : j = (dd [] m1).length := by have h : ¬ (j : Int) < ((dd [] m1).length : Nat) := of_decide_eq_false h2; omega
                subst h2
                rw [List.drop_length] at hinv2
                have hinv2 : dd out (dd [] m1) = o2 := hinv2
                rw [hinv2] at hmr
                exact ⟨⟨(k + 1, o2), h, hpo2, by show o2.length ≤ (k + 1) * 4096; omega, hmr⟩, hk', ⟨rfl, rfl, rfl, rfl, svc (wrap_succ (k := k) (by omega)), trivial⟩, ⟨rfl, trivial⟩, rfl⟩
    · have h : k = l.length := by have h : ¬ (k : Int) < (l.length : Nat) := of_decide_eq_false h; omega
      subst h
      rw [List.drop_length, catO] at hinv
      subst hinv
      exact rfl
end
end Go.Proofs.YtkhnjmbgkakngaaGreatDoor
