/- Regions of any order in which the outcome of one call is open. No condition. -/
import Derived.Test.YtkhnjmbgkakngaaGreatDoorFpI
set_option linter.unusedSimpArgs false
set_option linter.unusedVariables false
namespace Fp
open Go Go.MapKept

section
variable {P : Program} {arr : Array Oper} {o : Oper} {T : TT}

/-- The operation runs wherever what it reads is so, and comes to one of these. -/
def OpensB (P : Program) (o : Oper) (e : Env) (V : List U → Prop) (m : Nat) : Prop :=
  ∀ cx e' g a w, (∀ d, o.dst = some d → d < cx.n) → Agree m e e' → Rel cx g e' a w → ∀ (K : Act → World → Prop) (Q : Exit → Act → World → Prop),
    (∀ v, V v → ∀ g' a' w', Rel cx g' (app e' v) a' w' → K a' w') → o.wp P a w K Q
theorem OpensB.agree {V : List U → Prop} {m : Nat} {e e' : Env} (h : OpensB P o e V m) (q : Agree m e' e) : OpensB P o e' V m := fun cx e2 g a w hd hag hR => h cx e2 g a w hd (q.symm.trans hag) hR

def StepO (P : Program) (arr : Array Oper) (V : List U → Prop) (v : List U) (op : Bool) (o : Oper) (e : Env) (u : List U) (m : Nat × Nat) : Prop := match op with
  | true => Sub (wrU u) m.2 ∧ Sub (rdGuard arr.toList o) m.1 ∧ o.guard = none ∧ u = v ∧ OpensB P o e V m.1
  | false => StepB P arr o e u m
theorem StepO.agree {V : List U → Prop} {v : List U} {op : Bool} {u : List U} {m : Nat × Nat} {e e' : Env} (h : StepO P arr V v op o e u m) (q : Agree m.1 e' e) : StepO P arr V v op o e' u m := by
  cases op with
  | true => exact ⟨h.1, h.2.1, h.2.2.1, h.2.2.2.1, h.2.2.2.2.agree q⟩
  | false => exact StepB.agree h q
theorem StepO.wr {V : List U → Prop} {v : List U} {op : Bool} {u : List U} {m : Nat × Nat} {e : Env} (h : StepO P arr V v op o e u m) : Sub (wrU u) m.2 := by
  cases op with
  | true => exact h.1
  | false => exact h.1

def TraceO (P : Program) (arr : Array Oper) (V : List U → Prop) (v : List U) (p : Nat) : Nat → List Oper → Env → List (List U) → List (Nat × Nat) → Prop
  | _, [], _, us, bs => us = [] ∧ bs = []
  | i, o :: r, e, us, bs => ∃ u us' m bs', us = u :: us' ∧ bs = m :: bs' ∧ StepO P arr V v (Nat.beq i p) o e u m ∧ TraceO P arr V v p (i + 1) r (app e u) us' bs'

theorem traceO_at {V : List U → Prop} {v : List U} {p : Nat} {L : Array Bool} {m : Nat × Nat} : ∀ (r : List Oper) (us : List (List U)) (bs : List (Nat × Nat)) (i k : Nat) (e e' : Env), TraceO P arr V v p i r e us bs → r[k]? = some o → bs[k]? = some m → Agree m.1 e e' →
    (∀ (j : Nat) v, us[j]? = some v → j < k → L.getD (i + j) false = false → Disj (wrU v) m.1) → (∀ (j : Nat) v, us[j]? = some v → k ≤ j → L.getD (i + j) false = true → Disj (wrU v) m.1) →
    ∃ u, us[k]? = some u ∧ StepO P arr V v (Nat.beq (i + k) p) o (appS us i L e') u m
  | [], us, bs, i, k, e, e', _, h, _, _, _, _ => by simp at h
  | o' :: r, us, bs, i, 0, e, e', ht, h, hm, q, h1, h2 => by
    obtain ⟨u, us', m', bs', rfl, rfl, hs, ht'⟩ := ht
    simp only [List.getElem?_cons_zero, Option.some.injEq] at h hm
    subst h; subst hm
    exact ⟨u, rfl, hs.agree ((appS_off (u :: us') i L e' fun j v hj hl => h2 j v hj (Nat.zero_le _) hl).trans q.symm)⟩
  | o' :: r, us, bs, i, k + 1, e, e', ht, h, hm, q, h1, h2 => by
    obtain ⟨u, us', m', bs', rfl, rfl, hs, ht'⟩ := ht
    have g1 : ∀ (j : Nat) v, us'[j]? = some v → j < k → L.getD (i + 1 + j) false = false → Disj (wrU v) m.1 := fun j v hj hk hl => h1 (j + 1) v hj (by omega) (by rw [show i + (j + 1) = i + 1 + j by omega]; exact hl)
    have g2 : ∀ (j : Nat) v, us'[j]? = some v → k ≤ j → L.getD (i + 1 + j) false = true → Disj (wrU v) m.1 := fun j v hj hk hl => h2 (j + 1) v hj (by omega) (by rw [show i + (j + 1) = i + 1 + j by omega]; exact hl)
    have step : Agree m.1 (app e u) (if L.getD i false = true then app e' u else e') := by
      split
      · exact app_agree q
      · rename_i hl
        exact (app_off (h1 0 u rfl (by omega) (by simpa using hl))).trans q
    obtain ⟨u', p1, p2⟩ := traceO_at r us' bs' (i + 1) k _ _ ht' (by simpa using h) (by simpa using hm) step g1 g2
    rw [show i + 1 + k = i + (k + 1) by omega] at p2
    exact ⟨u', by simpa using p1, p2⟩

theorem traceO_wr {V : List U → Prop} {v : List U} {p : Nat} : ∀ (r : List Oper) (us : List (List U)) (bs : List (Nat × Nat)) (i : Nat) (e : Env), TraceO P arr V v p i r e us bs → us.length = r.length ∧ bs.length = r.length ∧ ∀ (j : Nat) u, us[j]? = some u → ∃ m, bs[j]? = some m ∧ Sub (wrU u) m.2
  | [], us, bs, i, e, ht => by
    obtain ⟨rfl, rfl⟩ := ht
    exact ⟨rfl, rfl, fun j u h => by simp at h⟩
  | o :: r, us, bs, i, e, ht => by
    obtain ⟨u, us', m, bs', rfl, rfl, hs, ht'⟩ := ht
    obtain ⟨h1, h2, h3⟩ := traceO_wr r us' bs' (i + 1) _ ht'
    refine ⟨by simp [h1], by simp [h2], fun j v hj => ?_⟩
    match j with
    | 0 => simp at hj; subst hj; exact ⟨m, rfl, hs.wr⟩
    | j + 1 => obtain ⟨m', q1, q2⟩ := h3 j v (by simpa using hj); exact ⟨m', by simpa using q1, q2⟩

theorem wants_none {e : Env} (hg : o.guard = none) : Wants arr o e true := by
  intro cx g e' a w _ _; unfold Region.wanted; rw [hg]

/-- Whatever row is taken. -/
theorem wpAny_allO {V : List U → Prop} {v0 : List U} (hv0 : V v0) {p : Nat} {B : List U → List (Nat × Nat)} (hc : ∀ v, V v → CheckedB arr.toList (B v)) {Q : Exit → Act → World → Prop} {cx : Ctx} (hd : ∀ o ∈ arr.toList, ∀ d, o.dst = some d → d < cx.n) {e0 : Env} {us : List U → List (List U)}
    (ht : ∀ v, V v → TraceO P arr V v p 0 arr.toList e0 (us v) (B v)) {D : Nat → Prop}
    (hcon : ∀ v v' j, V v → V v' → D j → (us v)[j]? = (us v')[j]?) (hbar : ∀ v j mp mj, V v → j ≠ p → ¬ D j → (B v)[p]? = some mp → (B v)[j]? = some mj → p < j ∧ clash mp.1 mp.2 mj.1 mj.2 = true)
    (hQ : ∀ v, V v → ∀ g a w, Rel cx g (appAll e0 (us v)) a w → Q .normal a w) : ∀ (fuel : Nat) (L : Array Bool) (v : List U), V v → ∀ (g : G) (a : Act) (w : World), L.size = arr.size → left arr L ≤ fuel →
      (∀ (k : Nat) o, arr.toList[k]? = some o → L.getD k false = true → ∀ e ∈ o.after.toList, Region.binds .any e = true → L.getD e.on false = true) →
      Rel cx g (appS (us v) 0 L e0) a w → wpAny P .any arr Q fuel L a w := by
  have hlenA : ∀ v, V v → (us v).length = arr.size := fun v hv => by rw [(traceO_wr _ _ _ _ _ (ht v hv)).1]; simp
  have full : ∀ L : Array Bool, L.size = arr.size → Region.ready .any arr L = [] → ∀ j, j < arr.size → L.getD j false = true := by
    intro L hL hr j
    induction j using Nat.strongRecOn with
    | _ j ih =>
      intro hj
      cases hl : L.getD j false with
      | true => rfl
      | false =>
        exfalso
        have : j ∈ Region.ready .any arr L := by
          rw [mem_ready]
          have hjL : j < L.size := by rw [hL]; exact hj
          have he : L.getD j true = L.getD j false := by simp [Array.getD_eq_getD_getElem?, hjL]
          refine ⟨by rw [he]; exact hl, arr[j], by simp [hj], fun e he hb => ?_⟩
          have hoj : arr.toList[j]? = some arr[j] := by simp [hj]
          have := (hc v0 hv0).back j _ hoj e (by simpa using he) hb
          exact ih e.on this (by omega)
        rw [hr] at this; cases this
  have done : ∀ (L : Array Bool) (v : List U), V v → ∀ (g : G) (a : Act) (w : World), L.size = arr.size → Region.ready .any arr L = [] → Rel cx g (appS (us v) 0 L e0) a w → Q .normal a w := fun L v hv g a w hL hr hR => by
    have := appS_all (us v) 0 L e0 fun j hj => by rw [Nat.zero_add]; exact full L hL hr j (by rw [← hlenA v hv]; exact hj)
    rw [this] at hR
    exact hQ v hv g a w hR
  intro fuel
  induction fuel with
  | zero =>
    intro L v hv g a w hL hf hcl hR
    have hr : Region.ready .any arr L = [] := by
      cases hr : Region.ready .any arr L with
      | nil => rfl
      | cons j r =>
        have hj : j ∈ Region.ready .any arr L := by rw [hr]; exact List.mem_cons_self
        obtain ⟨h1, o, ho, _⟩ := mem_ready.1 hj
        have : j ∈ (List.range arr.size).filter fun i => !L.getD i true := List.mem_filter.2 ⟨List.mem_range.2 (Array.getElem?_eq_some_iff.1 ho).1, by rw [h1]; rfl⟩
        have := List.length_pos_of_mem this
        unfold left at hf; omega
    exact ⟨hr, done L v hv g a w hL hr hR⟩
  | succ fuel ih =>
    intro L b1 hb1 g a w hL hf hcl hR1
    refine ⟨fun hr => done L b1 hb1 g a w hL hr hR1, fun j hj => ?_⟩
    obtain ⟨h1, o, ho, h2⟩ := mem_ready.1 hj
    have hjs := (Array.getElem?_eq_some_iff.1 ho).1
    have hjL : j < L.size := by rw [hL]; exact hjs
    have hoj : arr.toList[j]? = some o := by rw [Array.getElem?_toList]; exact ho
    have hlj : L.getD j false = false := by
      have he : L.getD j true = L.getD j false := by simp [Array.getD_eq_getD_getElem?, hjL]
      rw [← he]; exact h1
    have hedge : ∀ e ∈ o.after.toList, Region.binds .any e = true → L.getD e.on false = true := fun e he hb => h2 e (by simpa using he) hb
    have each : ∀ b, V b → ∃ u m, (us b)[j]? = some u ∧ (B b)[j]? = some m ∧ StepO P arr V b (Nat.beq j p) o (appS (us b) 0 L e0) u m ∧ ∀ g' a' w', Rel cx g' (app (appS (us b) 0 L e0) u) a' w' → wpAny P .any arr Q fuel (L.setIfInBounds j true) a' w' := fun b hb => by
      obtain ⟨hlen, hblen, hwr⟩ := traceO_wr _ _ _ _ _ (ht b hb)
      obtain ⟨mj, hmj⟩ : ∃ m, (B b)[j]? = some m := ⟨_, List.getElem?_eq_getElem (by rw [hblen]; simpa using hjs)⟩
      have opAt : ∀ (i : Nat) m, (B b)[i]? = some m → ∃ oi, arr.toList[i]? = some oi := fun i m hi => by
        have := (List.getElem?_eq_some_iff.1 hi).1
        exact ⟨_, List.getElem?_eq_getElem (by rw [← hblen]; exact this)⟩
      have before : ∀ (i : Nat) v, (us b)[i]? = some v → i < j → L.getD i false = false → Disj (wrU v) mj.1 := fun i v hi hij hl => by
        obtain ⟨mi, hmi, hs⟩ := hwr i v hi
        cases hcc : clash mi.1 mi.2 mj.1 mj.2 with
        | true => have := (hc b hb).clash i j o mi mj hij hoj hmi hmj hcc L hcl hedge; rw [hl] at this; cases this
        | false => exact (clash_false hcc).1.sub hs (Sub.refl _)
      have behind : ∀ (i : Nat) mi, (B b)[i]? = some mi → j < i → L.getD i false = true → clash mj.1 mj.2 mi.1 mi.2 = false := fun i mi hmi hij hl => by
        cases hcc : clash mj.1 mj.2 mi.1 mi.2 with
        | false => rfl
        | true =>
          obtain ⟨oi, hoi⟩ := opAt i mi hmi
          have := (hc b hb).clash j i oi mj mi hij hoi hmj hmi hcc L hcl (fun e he hb => hcl i oi hoi hl e he hb)
          rw [hlj] at this; cases this
      obtain ⟨u, hu, hst⟩ := traceO_at (p := p) (L := L) arr.toList (us b) (B b) 0 j e0 e0 (ht b hb) hoj hmj (Agree.refl _ _) (fun i v hi hij hl => before i v hi hij (by simpa using hl)) (fun i v hi hij hl => by
        rw [Nat.zero_add] at hl
        rcases Nat.eq_or_lt_of_le hij with rfl | hlt
        · rw [hlj] at hl; cases hl
        · obtain ⟨mi, hmi, hs⟩ := hwr i v hi
          exact (clash_false (behind i mi hmi hlt hl)).2.2.symm.sub hs (Sub.refl _))
      rw [Nat.zero_add] at hst
      have hins : appS (us b) 0 (L.setIfInBounds j true) e0 = app (appS (us b) 0 L e0) u := by
        have := appS_insert (us b) 0 j L e0 u (by omega) hu (by simpa using hlj) (fun i v hi hij hl => by
          rw [Nat.zero_add] at hl
          obtain ⟨mi, hmi, hs⟩ := hwr i v hi
          exact (clash_false (behind i mi hmi hij hl)).2.1.sub hst.wr hs)
        rw [Nat.zero_add] at this
        exact this
      have hnext : ∀ g' a' w', Rel cx g' (app (appS (us b) 0 L e0) u) a' w' → wpAny P .any arr Q fuel (L.setIfInBounds j true) a' w' := fun g' a' w' hR' => by
        refine ih _ b hb g' a' w' (by simp [hL]) ?_ (fun k ok hk hl e he hb => ?_) (by rw [hins]; exact hR')
        · have : left arr (L.setIfInBounds j true) < left arr L := by
            refine filter_lt (j := j) (fun i hi => ?_) (List.mem_range.2 hjs) (by rw [h1]; rfl) (by simp [hjL])
            by_cases hij : j = i
            · subst hij; simp [hjL] at hi
            · rw [getD_set_ne true hij] at hi; exact hi
          omega
        · by_cases hjk : j = k
          · subst hjk
            rw [hoj] at hk; injection hk with hk; subst hk
            exact getD_set_true (hedge e he hb)
          · rw [getD_set_ne false hjk] at hl
            exact getD_set_true (hcl k ok hk hl e he hb)
      exact ⟨u, mj, hu, hmj, hst, hnext⟩
    have hdo := hd o (List.mem_of_getElem? hoj)
    unfold wpOp
    rw [ho]
    simp only []
    obtain ⟨u, m, hu, hm, hst, hnext⟩ := each b1 hb1
    cases hjp : Nat.beq j p with
    | false =>
      rw [hjp] at hst
      rcases hst.2.2 with ⟨hw, hr⟩ | ⟨hw, hu2⟩
      · rw [if_pos (hw cx g _ a w (Agree.refl _ _) hR1)]
        exact .inl (hr cx _ g a w hdo (Agree.refl _ _) hR1 _ _ hnext)
      · rw [if_neg (by rw [hw cx g _ a w (Agree.refl _ _) hR1]; simp)]
        subst hu2
        exact hnext g _ w (hR1.putU hdo (fun d => (rfl : SlotOk g w d .undef undef)))
    | true =>
      have hjp := Nat.eq_of_beq_eq_true hjp
      subst hjp
      rw [Nat.beq_refl] at hst each
      obtain ⟨_, _, hg, _, hop⟩ := hst
      rw [if_pos (wants_none (arr := arr) (e := appS (us b1) 0 L e0) hg cx g _ a w (Agree.refl _ _) hR1)]
      refine .inl ?_
      have same : ∀ b, V b → appS (us b) 0 L e0 = appS (us b1) 0 L e0 := fun b hb => appS_congr L _ _ 0 e0 (by rw [hlenA b hb, hlenA b1 hb1]) fun i hi => by
        rw [Nat.zero_add] at hi
        by_cases hij : i = j
        · subst hij; rw [hlj] at hi; cases hi
        by_cases hD : D i
        · exact hcon b b1 i hb hb1 hD
        exfalso
        obtain ⟨hlen, hblen, _⟩ := traceO_wr _ _ _ _ _ (ht b1 hb1)
        have hi2 : i < arr.size := by
          rcases Nat.lt_or_ge i arr.size with h | h
          · exact h
          · simp [hL, h] at hi
        have hoi : arr.toList[i]? = some arr[i] := by simp [hi2]
        obtain ⟨mi, hmi⟩ : ∃ m, (B b1)[i]? = some m := ⟨_, List.getElem?_eq_getElem (by rw [hblen]; simpa using hi2)⟩
        obtain ⟨hlt, hcl2⟩ := hbar b1 i m mi hb1 hij hD hm hmi
        have := (hc b1 hb1).clash j i arr[i] m mi hlt hoi hm hmi hcl2 L hcl (fun e he hb => hcl i _ hoi hi e he hb)
        rw [hlj] at this; cases this
      refine hop cx _ g a w hdo (Agree.refl _ _) hR1 _ _ fun b hb g' a' w' hR' => ?_
      obtain ⟨u', m', hu', hm', hst', hnext'⟩ := each b hb
      have hu2 : u' = b := hst'.2.2.2.1
      refine hnext' g' a' w' ?_
      rw [hu2, same b hb]
      exact hR'

section
variable (P : Program) (T : TT) (ops : List Oper)
/-- A call whose outcome is open. -/
def openAt (o : Oper) (c : CE) (k : CE → Prop) : Prop := match o.guard, o.op with
  | none, .call cl => match cl.callee with
    | .value f => match opd (den c) f with
      | .v (.lit fv) => match opds (den c) cl.args.toList with
        | some args => ∃ is hin post, takeH is c.hp = some hin ∧ is.Nodup ∧ CallsG P fv hin args [] post ∧ (∃ r w h, post r w h) ∧
            ∀ r w hout, post r w hout → k (capp c (putU o.dst (.v r) ++ (ownU o.dst w ++ [.heap (dropH is c.hp ++ hout)])))
        | none => False
      | _ => False
    | _ => False
  | _, _ => False
def rdOpen (o : Oper) : Nat := match o.op with
  | .call cl => match cl.callee with
    | .value f => (rdOpd f ||| rdOpds cl.args.toList) ||| 8
    | _ => rdOpds cl.args.toList ||| 8
  | _ => 8
def wrOpen (o : Oper) : Nat := wrDst o.dst ||| (8 ||| 128)
end

section
variable (OA : Oper → CE → (CE → Prop) → Prop) (P : Program) (T : TT) (ops : List Oper)
/-- Behind the call (fm: but for a move of what is known, that comes next). -/
def openNext (fm : Bool) (o : Oper) (r : List Oper) (c : CE) (bs : List (Nat × Nat)) (k : CE → List (Nat × Nat) → Prop) : Prop := match fm with
  | false => OA o c fun c2 => COpsY P T ops 128 r c2 (bs ++ [(rdOpen o, wrOpen o)]) k
  | true => match r with
    | [] => False
    | o2 :: r2 => ∃ s v, o2.guard = none ∧ o2.op = .move (.tmp s) ∧ lookS c.vs s = .v (.lit v) ∧ o.dst ≠ some s ∧ OA o c fun c2 => COpsY P T ops 128 r2 (capp c2 (putU o2.dst (.v (.lit v)))) ((bs ++ [(rdOpen o, wrOpen o)]) ++ [(bV s, wrDst o2.dst)]) k

/-- The call is the p-th. -/
def COpsO (fm : Bool) (l : List Oper) : Nat → CE → List (Nat × Nat) → (CE → List (Nat × Nat) → Prop) → Prop := List.rec (motive := fun _ => Nat → CE → List (Nat × Nat) → (CE → List (Nat × Nat) → Prop) → Prop)
  (fun _ _ _ _ => False)
  (fun o r ih p c bs k => match c with
    | ⟨vs, ow, al, h⟩ => match p with
      | 0 => openNext OA P T ops fm o r ⟨vs, ow, al, h⟩ bs k
      | p + 1 => cgk ops o ⟨vs, ow, al, h⟩ (fun c => stepY P T ops o c fun c m => ih p c (bs ++ [(rdGuard ops o ||| (m.1 ||| 0), m.2)]) k) (fun c => ih p (capp c (putU o.dst .undef)) (bs ++ [(rdGuard ops o ||| 0, wrDst o.dst)]) k)) l
end

theorem traceF_O {V : List U → Prop} {v : List U} {p b : Nat} : ∀ (r : List Oper) (us : List (List U)) (bs : List (Nat × Nat)) (i : Nat) (e : Env), p < i → (∀ o ∈ r, isMk o = true → o.guard ≠ none) → TraceF P arr b r e us bs → TraceO P arr V v p i r e us bs
  | [], us, bs, i, e, _, _, ht => ht
  | o :: r, us, bs, i, e, hi, hm, ht => by
    obtain ⟨u, us', m, bs', rfl, rfl, hs, ht'⟩ := ht
    refine ⟨u, us', m, bs', rfl, rfl, ?_, traceF_O r us' bs' (i + 1) _ (by omega) (fun o ho => hm o (List.mem_cons_of_mem _ ho)) ht'⟩
    rw [Nat.beq_ne (by omega : i ≠ p)]
    refine ⟨hs.1, hs.2.1, hs.2.2.imp (fun h => ⟨h.1, ?_⟩) id⟩
    rcases h.2 with h2 | ⟨t, d, p1, p2, p3, _⟩
    · exact h2.2
    · exact absurd p3 (hm o List.mem_cons_self (by unfold isMk; rw [p1, p2]))

theorem openAt_spec {c : CE} {k : CE → Prop} (h : openAt P o c k) : ∃ V : List U → Prop, o.guard = none ∧ (∃ v, V v) ∧ OpensB P o (den c) V (rdOpen o) ∧ ∀ v, V v → Sub (wrU v) (wrOpen o) ∧ k (capp c v) := by
  unfold openAt at h
  split at h
  · rename_i cl hg ho
    split at h
    · rename_i f hc
      split at h
      · rename_i fv hf
        split at h
        · rename_i args ha
          obtain ⟨is, hin, post, h1, h2, h4, ⟨r0, w0, hh0, hp0⟩, h5⟩ := h
          refine ⟨fun u => ∃ r w hout, post r w hout ∧ u = putU o.dst (.v r) ++ (ownU o.dst w ++ [.heap (dropH is c.hp ++ hout)]), hg, ⟨_, r0, w0, hh0, hp0, rfl⟩, fun cx e' g a w hd hag hR K Q hK => ?_, ?_⟩
          · have hro : rdOpen o = (rdOpd f ||| rdOpds cl.args.toList) ||| 8 := by unfold rdOpen; simp only [ho, hc]
            rw [hro] at hag
            have hheap : c.hp = e'.heap := hag.heap ((Sub.inr : Sub 8 ((rdOpd f ||| rdOpds cl.args.toList) ||| 8)) 3 (by decide))
            obtain ⟨n, first, cap, he, hen, hcalls⟩ := h4
            have hfv := (opd_rep hag hR (Sub.trans Sub.inl Sub.inl) hf).lit_eq.1
            rw [he] at hfv
            refine call_coreG hag hR ho hc (Sub.trans Sub.inr Sub.inl) hd (opds_as ha) (is := is) (os := []) (by rw [← hheap]; exact h1) h2 (by cases cl.args.toList <;> rfl) hfv hen (fun vs q1 q2 q3 => hcalls g.F w vs hR.fresh q1 q2 q3) fun r k' hout g' a' w' hp hR' => hK _ ⟨r, k', hout, hp, rfl⟩ g' a' w' ?_
            have hl : lose cl.args.toList [] = [] := by cases cl.args.toList with
              | nil => rfl
              | cons x r => cases x <;> rfl
            rw [hl, List.nil_append] at hR'
            rw [hheap]
            exact hR'
          · rintro v ⟨r, w, hout, hp, rfl⟩
            refine ⟨?_, h5 r w hout hp⟩
            unfold wrOpen
            rw [wrU_app, wrU_app, wrU_putU]
            refine .or Sub.inl (.or ?_ ?_)
            · unfold ownU wrDst
              cases o.dst with
              | none => exact Sub.zero _
              | some d => simp only [wrU]; exact .or (Sub.trans Sub.inr Sub.inl) (Sub.zero _)
            · simp only [wrU]; exact .or (Sub.trans Sub.inl Sub.inr) (Sub.zero _)
        · exact h.elim
      · exact h.elim
    · exact h.elim
  · exact h.elim

/-- What an open step comes to. -/
def OASpec (P : Program) (OA : Oper → CE → (CE → Prop) → Prop) : Prop := ∀ (o : Oper) (c : CE) (k : CE → Prop), OA o c k → ∃ V : List U → Prop, o.guard = none ∧ (∃ v, V v) ∧ OpensB P o (den c) V (rdOpen o) ∧ ∀ v, V v → Sub (wrU v) (wrOpen o) ∧ k (capp c v)
variable {OA : Oper → CE → (CE → Prop) → Prop}

theorem open_off_aux (d s : Nat) (h : d ≠ s) : ((bV d ||| bO d).testBit (4 * s)) = false := by
  have two : ∀ k j : Nat, (2 ^ k).testBit j = decide (k = j) := fun k j => Nat.testBit_two_pow
  simp only [bV, bO, Nat.testBit_or, two]
  rw [decide_eq_false (by omega : ¬ 4 * d = 4 * s), decide_eq_false (by omega : ¬ 4 * d + 1 = 4 * s)]
  rfl
theorem open_off {s : Nat} (h : o.dst ≠ some s) (hb : (wrOpen o).testBit (4 * s) = true) : False := by
  have two : ∀ k j : Nat, (2 ^ k).testBit j = decide (k = j) := fun k j => Nat.testBit_two_pow
  unfold wrOpen wrDst at hb
  rw [Nat.testBit_or, Nat.testBit_or, show 8 = 2 ^ 3 from rfl, show 128 = 2 ^ 7 from rfl, two, two, decide_eq_false (by omega : ¬ 3 = 4 * s), decide_eq_false (by omega : ¬ 7 = 4 * s)] at hb
  cases hd : o.dst with
  | none => rw [hd] at hb; simp at hb
  | some d =>
    rw [hd] at hb
    simp only [open_off_aux d s (fun e => h (by rw [hd, e]))] at hb
    simp at hb

theorem sub_openW : Sub 128 (wrOpen o) := Sub.trans Sub.inr Sub.inr

/-- The trace at the call, and behind it. -/
theorem ctraceN (hOA : OASpec P OA) (hT : TTok P T) {fm : Bool} {k : CE → List (Nat × Nat) → Prop} (p : Nat) (r : List Oper) (c : CE) (e0 : Env) (bs0 : List (Nat × Nat)) (h : openNext OA P T arr.toList fm o r c bs0 k) (q : EnvEq e0 (den c)) :
    ∃ (V : List U → Prop) (us : List U → List (List U)) (bs : List U → List (Nat × Nat)) (D : Nat → Prop), (∃ v, V v) ∧ (∀ v, V v → TraceO P arr V v p p (o :: r) e0 (us v) (bs v)) ∧ (∀ v v' j, V v → V v' → D j → (us v)[j]? = (us v')[j]?) ∧
      (∀ v mp, V v → (bs v)[0]? = some mp → Sub 128 mp.2) ∧ (∀ v j mj, V v → j ≠ 0 → ¬ D j → (bs v)[j]? = some mj → Sub 128 mj.1) ∧ ∀ v, V v → ∃ c', k c' (bs0 ++ bs v) ∧ EnvEq (appAll e0 (us v)) (den c') := by
  classical
  cases fm with
  | false =>
    obtain ⟨V, hg, hV, hO, hk⟩ := hOA o c (fun c2 => COpsY P T arr.toList 128 r c2 (bs0 ++ [(rdOpen o, wrOpen o)]) k) h
    have tr := fun v (hv : V v) => ctraceY (b := 0) hT r _ (app e0 v) _ (hk v hv).2 (by rw [den_capp]; exact q.app v)
    refine ⟨V, fun v => v :: (if hv : V v then (tr v hv).choose else []), fun v => (rdOpen o, wrOpen o) :: (if hv : V v then (tr v hv).choose_spec.choose else []), fun _ => False, hV, fun v hv => ?_, fun _ _ _ _ _ h => h.elim, fun v mp _ h0 => ?_, fun v j mj hv hj _ hmj => ?_, fun v hv => ?_⟩
    · have ts := (tr v hv).choose_spec.choose_spec
      simp only [dif_pos hv]
      refine ⟨_, _, _, _, rfl, rfl, ?_, traceF_O _ _ _ _ _ (Nat.lt_succ_self p) ts.2.2.1 ts.1⟩
      rw [Nat.beq_refl]
      exact ⟨(hk v hv).1, by unfold rdGuard; rw [hg]; exact Sub.zero _, hg, rfl, hO.agree (q.agree _)⟩
    · simp at h0; subst h0; exact sub_openW
    · have ts := (tr v hv).choose_spec.choose_spec
      match j, hj with
      | j + 1, _ =>
        simp only [dif_pos hv] at hmj
        exact ts.2.1 mj (List.mem_of_getElem? (by simpa using hmj))
    · obtain ⟨c', k2, k3⟩ := (tr v hv).choose_spec.choose_spec.2.2.2
      rw [List.append_assoc] at k2
      simp only [dif_pos hv]
      exact ⟨c', k2, k3⟩
  | true =>
    match r with
    | [] => exact h.elim
    | o2 :: r2 =>
      obtain ⟨s, x, hg2, ho2, hs, hds, h⟩ := h
      obtain ⟨V, hg, hV, hO, hk⟩ := hOA _ _ _ h
      have tr := fun v (hv : V v) => ctraceY (b := 0) hT r2 _ (app (app e0 v) (putU o2.dst (.v (.lit x)))) _ (hk v hv).2 (by rw [den_capp, den_capp]; exact (q.app v).app _)
      refine ⟨V, fun v => v :: putU o2.dst (.v (.lit x)) :: (if hv : V v then (tr v hv).choose else []), fun v => (rdOpen o, wrOpen o) :: (bV s, wrDst o2.dst) :: (if hv : V v then (tr v hv).choose_spec.choose else []), fun j => j = 1, hV, fun v hv => ?_, fun _ _ _ _ _ h => by subst h; rfl, fun v mp _ h0 => ?_, fun v j mj hv hj hD hmj => ?_, fun v hv => ?_⟩
      · have ts := (tr v hv).choose_spec.choose_spec
        simp only [dif_pos hv]
        refine ⟨_, _, _, _, rfl, rfl, ?_, ⟨_, _, _, _, rfl, rfl, ?_, traceF_O _ _ _ _ _ (by omega : p < p + 1 + 1) ts.2.2.1 ts.1⟩⟩
        · rw [Nat.beq_refl]
          exact ⟨(hk v hv).1, by unfold rdGuard; rw [hg]; exact Sub.zero _, hg, rfl, hO.agree (q.agree _)⟩
        · rw [Nat.beq_ne (by omega : p + 1 ≠ p)]
          refine ⟨by rw [wrU_putU]; exact Sub.refl _, by unfold rdGuard; rw [hg2]; exact Sub.zero _, .inl ⟨wants_none hg2, ?_⟩⟩
          have hdis : Disj (wrU v) (bV s) := fun t ht1 ht2 => by
            have h1 := (hk v hv).1 t ht1
            have h2 : 4 * s = t := by simpa [bV, Nat.testBit_two_pow] using ht2
            subst h2
            exact open_off hds h1
          have hag : Agree (bV s) (app e0 v) (den c) := (app_off hdis).trans (q.agree _)
          have hRB : RunsB P o2 (den c) (putU o2.dst (.v (.lit x))) (bV s) := fun cx e' g a w hd hag hR K Q hK => by
            have hx : opd (den c) (.tmp s) = .v (.lit x) := hs
            have hv := opd_rep (x := .tmp s) hag hR (Sub.refl _) hx
            refine wp_value (v := a.eval (.tmp s)) (w' := w) (by unfold execOp; simp only [ho2, Sem.run_pure]) (hK g _ _ (hR.putU hd fun _ => hv))
          exact hRB.agree hag
      · simp at h0; subst h0; exact sub_openW
      · have ts := (tr v hv).choose_spec.choose_spec
        match j, hj, hD with
        | 1, _, hD => exact absurd rfl hD
        | j + 2, _, _ =>
          simp only [dif_pos hv] at hmj
          exact ts.2.1 mj (List.mem_of_getElem? (by simpa using hmj))
      · obtain ⟨c', k2, k3⟩ := (tr v hv).choose_spec.choose_spec.2.2.2
        rw [List.append_assoc, List.append_assoc] at k2
        simp only [dif_pos hv]
        exact ⟨c', k2, k3⟩

theorem ctraceO (hOA : OASpec P OA) (hT : TTok P T) {fm : Bool} {k : CE → List (Nat × Nat) → Prop} : ∀ (r : List Oper) (p i : Nat) (c : CE) (e0 : Env) (bs0 : List (Nat × Nat)), COpsO OA P T arr.toList fm r p c bs0 k → EnvEq e0 (den c) →
    ∃ (V : List U → Prop) (us : List U → List (List U)) (bs : List U → List (Nat × Nat)) (D : Nat → Prop), (∃ v, V v) ∧ (∀ v, V v → TraceO P arr V v (i + p) i r e0 (us v) (bs v)) ∧ (∀ v v' j, V v → V v' → D j → (us v)[j]? = (us v')[j]?) ∧
      (∀ v mp, V v → (bs v)[p]? = some mp → Sub 128 mp.2) ∧ (∀ v j mj, V v → j ≠ p → ¬ D j → (bs v)[j]? = some mj → p < j ∧ Sub 128 mj.1) ∧ ∀ v, V v → ∃ c', k c' (bs0 ++ bs v) ∧ EnvEq (appAll e0 (us v)) (den c')
  | [], p, i, c, e0, bs0, h, q => by cases c; exact h.elim
  | o :: r, 0, i, c, e0, bs0, h, q => by
    have h' : openNext OA P T arr.toList fm o r c bs0 k := by cases c; exact h
    obtain ⟨V, us, bs, D, h1, h2, h3, h4, h5, h6⟩ := ctraceN hOA hT i r c e0 bs0 h' q
    exact ⟨V, us, bs, D, h1, h2, h3, h4, fun v j mj hv hj hD hm => ⟨Nat.pos_of_ne_zero hj, h5 v j mj hv hj hD hm⟩, h6⟩
  | o :: r, p + 1, i, c, e0, bs0, h, q => by
    have h' : cgk arr.toList o c (fun c => stepY P T arr.toList o c fun c m => COpsO OA P T arr.toList fm r p c (bs0 ++ [(rdGuard arr.toList o ||| (m.1 ||| 0), m.2)]) k) (fun c => COpsO OA P T arr.toList fm r p (capp c (putU o.dst .undef)) (bs0 ++ [(rdGuard arr.toList o ||| 0, wrDst o.dst)]) k) := by cases c; exact h
    have fin : ∀ (u : List U) (m : Nat × Nat) (c1 : CE), StepB P arr o e0 u m → EnvEq (app e0 u) (den c1) → COpsO OA P T arr.toList fm r p c1 (bs0 ++ [m]) k → ∃ (V : List U → Prop) (us : List U → List (List U)) (bs : List U → List (Nat × Nat)) (D : Nat → Prop), (∃ v, V v) ∧ (∀ v, V v → TraceO P arr V v (i + (p + 1)) i (o :: r) e0 (us v) (bs v)) ∧ (∀ v v' j, V v → V v' → D j → (us v)[j]? = (us v')[j]?) ∧
      (∀ v mp, V v → (bs v)[p + 1]? = some mp → Sub 128 mp.2) ∧ (∀ v j mj, V v → j ≠ p + 1 → ¬ D j → (bs v)[j]? = some mj → p + 1 < j ∧ Sub 128 mj.1) ∧ ∀ v, V v → ∃ c', k c' (bs0 ++ bs v) ∧ EnvEq (appAll e0 (us v)) (den c') := fun u m c1 hs hq hc => by
      obtain ⟨V, us, bs, D, h1, h2, h3, h4, h5, h6⟩ := ctraceO hOA hT r p (i + 1) c1 _ _ hc hq
      refine ⟨V, fun v => u :: us v, fun v => m :: bs v, fun j => match j with | 0 => True | j + 1 => D j, h1, fun v hv => ⟨_, _, _, _, rfl, rfl, ?_, by rw [show i + (p + 1) = i + 1 + p by omega]; exact h2 v hv⟩, fun v v' j hv hv' hD => ?_, fun v mp hv hm => h4 v mp hv (by simpa using hm), fun v j mj hv hj hD hm => ?_, fun v hv => ?_⟩
      · rw [Nat.beq_ne (by omega : i ≠ i + (p + 1))]
        exact hs
      · match j, hD with
        | 0, _ => rfl
        | j + 1, hD => simpa using h3 v v' j hv hv' hD
      · match j, hj, hD, hm with
        | 0, _, hD, _ => exact absurd trivial hD
        | j + 1, hj, hD, hm =>
          obtain ⟨a1, a2⟩ := h5 v j mj hv (by omega) hD (by simpa using hm)
          exact ⟨by omega, a2⟩
      · obtain ⟨c', k2, k3⟩ := h6 v hv
        rw [List.append_assoc] at k2
        exact ⟨c', k2, k3⟩
    obtain ⟨c1, t, q1, q2, q3, q4⟩ := cgk_cases h'
    have q01 := q.trans q1
    cases t with
    | true =>
      obtain ⟨u, m, h1, h2, h3⟩ := stepY_spec (arr := arr) hT (q3 rfl)
      exact fin u (rdGuard arr.toList o ||| (m.1 ||| 0), m.2) _ ⟨h2, Sub.inl, .inl ⟨q2.agree (q01.agree _), (h1.sub (Sub.trans Sub.inl Sub.inr)).agree (q01.agree _)⟩⟩ (by rw [den_capp]; exact q01.app u) h3
    | false =>
      exact fin (putU o.dst .undef) (rdGuard arr.toList o ||| 0, wrDst o.dst) _ ⟨by rw [wrU_putU]; exact Sub.refl _, Sub.inl, .inr ⟨q2.agree (q01.agree _), rfl⟩⟩ (by rw [den_capp]; exact q01.app _) (q4 rfl)

/-- A region of any order in which the outcome of the p-th step, a call, is open (fm: the next is a move of what is known). -/
theorem Wsem.regionOA (hOA : OASpec P OA) (hT : TTok P T) (hm : P.follows .mixedOrders = true) (fm : Bool) (p : Nat) {id : Nat} {vs : List (Nat × SV)} {ow : List (Nat × Nat × Nat)} {al : List Nat} {hp : List (Nat × HO)} {n : CE → Prop} {x : Nat → CE → Prop} {r : CE → Prop}
    (h : crf vs fun vs => COpsO OA P T arr.toList fm arr.toList p ⟨vs, ow, [], hp⟩ [] fun c bs => dynOk arr.toList bs = true ∧ n c) : Wsem P (.region id arr true) ⟨vs, ow, al, hp⟩ n x r := by
  intro cx hyk hk g a w hR
  simp only [codeOkH, List.all_eq_true] at hk
  have hd : ∀ o ∈ arr.toList, ∀ d, o.dst = some d → d < cx.n := fun o ho d hd => by
    have := hk o ho
    rw [hd] at this
    exact Nat.le_of_ble_eq_true this
  simp only [crf_eq] at h
  obtain ⟨g1, hR1⟩ := (hR.grow (Grow.drew w)).refresh
  have hce := den_refresh ⟨vs, ow, al, hp⟩
  obtain ⟨V, us, bs, D, ⟨v0, h1⟩, h2, h3, h4, h5, h6⟩ := ctraceO hOA hT arr.toList p 0 _ (Fp.refresh (den ⟨vs, ow, al, hp⟩)) [] h (by rw [hce]; exact EnvEq.refl _)
  rw [Nat.zero_add] at h2
  refine wp_region_any hm (wpAny_allO h1 (B := bs) (us := us) (p := p) (D := D) (e0 := Fp.refresh (den ⟨vs, ow, al, hp⟩)) (fun v hv => ?_) hd h2 h3 (fun v j mp mj hv hj hD hmp hmj => ?_) (fun v hv g a w hR => ?_) arr.size _ v0 h1 g1 a _ (by simp) ?_ (fun k o _ hl => ?_) ?_)
  · obtain ⟨c', ⟨hc, _⟩, _⟩ := h6 v hv
    exact dynOk_spec hc
  · obtain ⟨a1, a2⟩ := h5 v j mj hv hj hD hmj
    exact ⟨a1, clash_bar (h4 v mp hv hmp) a2⟩
  · obtain ⟨c', ⟨_, h2⟩, h3⟩ := h6 v hv
    exact ⟨c', g, h2, hR.eqv h3⟩
  · unfold left
    exact Nat.le_trans (List.length_filter_le _ _) (by simp)
  · rcases Nat.lt_or_ge k arr.size with hk | hk <;> simp [hk] at hl
  · rw [appS_none (us v0) 0 _ _ (fun j => by rcases Nat.lt_or_ge j arr.size with hk | hk <;> simp [hk])]
    exact hR1
theorem Wsem.regionO (hT : TTok P T) (hm : P.follows .mixedOrders = true) (fm : Bool) (p : Nat) {id : Nat} {vs : List (Nat × SV)} {ow : List (Nat × Nat × Nat)} {al : List Nat} {hp : List (Nat × HO)} {n : CE → Prop} {x : Nat → CE → Prop} {r : CE → Prop}
    (h : crf vs fun vs => COpsO (openAt P) P T arr.toList fm arr.toList p ⟨vs, ow, [], hp⟩ [] fun c bs => dynOk arr.toList bs = true ∧ n c) : Wsem P (.region id arr true) ⟨vs, ow, al, hp⟩ n x r :=
  Wsem.regionOA (fun _ _ _ h => openAt_spec h) hT hm fm p h
end
end Fp

/- Known blocks that are not used any more are left out. No condition. -/
namespace Fp
open Go Go.MapKept

section
variable {P : Program}
theorem Rel.drop {cx : Ctx} {g : G} {e : Env} {a : Act} {w : World} (h : Rel cx g e a w) {hp : List (Nat × HO)} (hs : hp.Sublist e.heap) : Rel cx g { e with heap := hp } a w :=
  have hk : (keys hp).Sublist (keys e.heap) := hs.map _
  { h with
    slots := h.slots
    own := h.own
    heap := ⟨hk.nodup h.heap.nodup, fun b hb => h.heap.shut b (hk.subset hb), fun x hx => h.heap.ok x (hs.subset hx)⟩
    heapO := fun b hb => h.heapO b (hk.subset hb)
    al := h.al }

/-- Of the known blocks, these alone are used on. -/
theorem Wsem.drop {q : Code} {vs : List (Nat × SV)} {ow : List (Nat × Nat × Nat)} {al : List Nat} {hp hp' : List (Nat × HO)} {n : CE → Prop} {x : Nat → CE → Prop} {r : CE → Prop} (hs : hp'.Sublist hp) (h : Wsem P q ⟨vs, ow, al, hp'⟩ n x r) : Wsem P q ⟨vs, ow, al, hp⟩ n x r := by
  intro cx hyk hk g a w hR
  exact h cx hyk hk g a w (hR.drop (e := den ⟨vs, ow, al, hp⟩) hs)
end
end Fp

