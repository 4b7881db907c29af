/- Code within a round of a range over a function. No condition. -/
import Derived.Test.YtgonkhaebmfgiaaDoorFpJ
import Derived.RangeFuncNested
import Derived.OrdersIn
import Derived.TacticsIn
set_option linter.unusedSimpArgs false
set_option linter.unusedVariables false
namespace Fp
open Go Go.MapKept

/-- The fence that lets all in; in which round the code stands. -/
def FW (rd : Option Nat) : Fence := { Fence.wide with round := rd }
theorem callsIn_FW {rd : Option Nat} {n : Nat} {P : Program} {f : FuncId} {args : Array Value} {w : World} {R : Ending → World → Prop} (h : Calls P f args w R) : CallsIn (FW rd) n P f args w R := (callsIn_wide (n := n)).2 h

def isDefer (o : Oper) : Bool := match o.op with
  | .defer _ => true
  | _ => false
def codeOkR : Code → Bool
  | .region _ ops _ => ops.toList.all (fun o => !isDefer o)
  | .seq a b => codeOkR a && codeOkR b
  | .cond _ a b => codeOkR a && codeOkR b
  | .block _ c => codeOkR c
  | .loop c => codeOkR c
  | .scope _ => false
  | .rangeFunc _ _ a b => codeOkR a && codeOkR b
  | _ => true

section
variable {P : Program} {T : TT} {rd : Option Nat}

theorem uponIn_of {o : Oper} {a : Act} {K : Act → World → Prop} {Q : Exit → Act → World → Prop} {n : Nat} : ∀ {r : Result Next}, o.upon P a K Q r → o.uponIn (FW rd) n P a K Q r
  | .ok x w', h => by
    cases x <;> simp only [Oper.upon, Oper.uponIn] at h ⊢ <;>
      first
        | exact h
        | exact ⟨fun h => by simp [FW, Fence.wide] at h, callsIn_FW h⟩
        | exact ⟨fun h => by simp [FW, Fence.wide] at h, fun c cs _ => by obtain ⟨v, w2, h1, h2⟩ := h c cs; exact ⟨v, w2, h1, stepsIn_wide.2 h2⟩⟩
        | exact h.elim
  | .halt x w', h => by cases x <;> simp only [Oper.upon, Oper.uponIn] at h ⊢ <;> exact h

theorem wpIn_of_wp {o : Oper} (hd : isDefer o = false) {a : Act} {w : World} {K : Act → World → Prop} {Q : Exit → Act → World → Prop} {n : Nat} (h : o.wp P a w K Q) : o.wpIn (FW rd) n P a w K Q := by
  refine ⟨fun _ _ => trivial, ?_⟩
  rw [Oper.semAt_eq _ _ _ (fun c hc => by simp [isDefer, hc] at hd)]
  exact uponIn_of h

theorem wpListIn_of {ops : Array Oper} {Q : Exit → Act → World → Prop} (hQ : ¬ LetsOut Q) {n : Nat} : ∀ (l : List Oper) (a : Act) (w : World), (∀ o ∈ l, isDefer o = false) → wpList P ops Q l a w → wpListIn (FW rd) n P ops Q l a w
  | [], a, w, _, h => h
  | o :: r, a, w, hd, h => by
    unfold wpList at h
    unfold wpListIn
    split at h
    · rename_i hw
      rw [if_pos hw]
      rcases h with h | h
      · exact Oper.wpIn_mono (fun a w h => wpListIn_of hQ r a w (fun o ho => hd o (List.mem_cons_of_mem _ ho)) h) (wpIn_of_wp (hd o List.mem_cons_self) h)
      · exact absurd h.2 hQ
    · rename_i hw
      rw [if_neg hw]
      exact ⟨fun _ _ => trivial, wpListIn_of hQ r _ w (fun o ho => hd o (List.mem_cons_of_mem _ ho)) h⟩

theorem wpAnyIn_of {ops : Array Oper} {Q : Exit → Act → World → Prop} (hQ : ¬ LetsOut Q) {n : Nat} (hd : ∀ o ∈ ops.toList, isDefer o = false) {md : Region.Mode} : ∀ (fuel : Nat) (L : Array Bool) (a : Act) (w : World), wpAny P md ops Q fuel L a w → wpAnyIn (FW rd) n P md ops Q fuel L a w
  | 0, L, a, w, h => h
  | fuel + 1, L, a, w, h => by
    refine ⟨h.1, fun i hi => ?_⟩
    have h2 := h.2 i hi
    unfold wpOp at h2
    unfold wpOpIn
    split at h2
    · rename_i ho
      simp only [ho]
      exact wpAnyIn_of hQ hd fuel _ a w h2
    · rename_i o ho
      simp only [ho]
      have hdo : isDefer o = false := hd o (by rw [← Array.getElem?_toList] at ho; exact List.mem_of_getElem? ho)
      split at h2
      · rename_i hw
        rw [if_pos hw]
        rcases h2 with h2 | h2
        · exact Oper.wpIn_mono (fun a w h => wpAnyIn_of hQ hd fuel _ a w h) (wpIn_of_wp hdo h2)
        · exact absurd h2.2 hQ
      · rename_i hw
        rw [if_neg hw]
        exact ⟨fun _ _ => trivial, wpAnyIn_of hQ hd fuel _ _ w h2⟩

theorem cpost_in {cx : Ctx} {n : CE → Prop} {x : Nat → CE → Prop} {r : CE → Prop} : ¬ LetsOut (CPost cx n x r) := fun ⟨_, _, h⟩ => h

theorem wcx_soundIn (hT : TTok P T) (hm : P.follows .mixedOrders = true) {cx : Ctx} (hyk : cx.yk = []) {m : Nat} : ∀ (q : Code) (c : CE) (n : CE → Prop) (x : Nat → CE → Prop) (r : CE → Prop), codeOkH cx.n q = true → codeOkR q = true → WcX P T q c n x r →
    ∀ g a w, Rel cx g (den c) a w → q.wpIn (FW rd) m P (CPost cx n x r) a w := by
  intro q
  induction q with
  | skip => intro c n x r _ _ h g a w hR; exact wpIn_skip ⟨c, g, h, hR⟩
  | region id ops draw =>
    intro c n x r hk hkr h g a w hR
    simp only [codeOkH, List.all_eq_true] at hk
    simp only [codeOkR, List.all_eq_true, Bool.not_eq_true'] at hkr
    have hd : ∀ o ∈ ops.toList, ∀ d, o.dst = some d → d < cx.n := fun o ho d hd => by
      have := hk o ho
      rw [hd] at this
      exact Nat.le_of_ble_eq_true this
    have hK : ∀ c g a w, n c → Rel cx g (den c) a w → CPost cx n x r .normal a w := fun c g a w h1 h2 => ⟨c, g, h1, h2⟩
    obtain ⟨vs, ow, al, hp⟩ := c
    rw [WcX_region] at h
    simp only [crf_eq] at h
    cases draw with
    | true =>
      obtain ⟨g1, hR1⟩ := (hR.grow (Grow.drew w)).refresh
      have hce := den_refresh ⟨vs, ow, al, hp⟩
      obtain ⟨us, bs, p, t1, t2, t3, t4, t5, t6⟩ := ctraceE hT ops.toList _ (Fp.refresh (den ⟨vs, ow, al, hp⟩)) [] h (by rw [hce]; exact EnvEq.refl _)
      refine wpIn_region_any hm (wpAnyIn_of cpost_in hkr _ _ _ _ (wpAny_allF (B := bs) (us := us) (p := p) (e0 := Fp.refresh (den ⟨vs, ow, al, hp⟩)) (fun b => ?_) hd t1 t2 (fun hp b j mp mj hj h1 h2 => clash_bar (t3 (by simpa using hp) b mp h1) (t4 b j mj hj h2)) (fun j o ho => t5 j o (by simpa using ho)) (fun b g a w hR => ?_) ops.size _ 0 g1 a _ (by simp) ?_ (fun k o _ hl => ?_) ?_))
      · obtain ⟨c', ⟨hc, _⟩, _⟩ := t6 b
        exact dynOk_spec hc
      · obtain ⟨c', ⟨_, h2⟩, h3⟩ := t6 b
        exact hK c' g a w h2 (hR.eqv h3)
      · unfold left
        exact Nat.le_trans (List.length_filter_le _ _) (by simp)
      · rcases Nat.lt_or_ge k ops.size with hk | hk <;> simp [hk] at hl
      · rw [appS_none (us 0) 0 _ _ (fun j => by rcases Nat.lt_or_ge j ops.size with hk | hk <;> simp [hk])]
        exact hR1
    | false =>
      obtain ⟨g', hR'⟩ := hR.refresh
      exact wpIn_region_list (wpListIn_of cpost_in _ _ _ hkr (cOpsX_text hT hyk hK _ _ g' a w hd h (by rw [den_refresh ⟨vs, ow, al, hp⟩]; exact hR')))
  | seq p q ihp ihq =>
    intro c n x r hk hkr h g a w hR
    simp only [codeOkH, Bool.and_eq_true] at hk
    simp only [codeOkR, Bool.and_eq_true] at hkr
    refine wpIn_seq (Go.wpIn_mono (ihp c _ x r hk.1 hkr.1 h g a w hR) fun ex a w hp => ?_)
    cases ex with
    | normal => obtain ⟨c', g', h1, h2⟩ := hp; exact ihq c' n x r hk.2 hkr.2 h1 g' a w h2
    | _ => exact hp
  | cond o p q ihp ihq =>
    intro c n x r hk hkr h g a w hR
    simp only [codeOkH, Bool.and_eq_true] at hk
    simp only [codeOkR, Bool.and_eq_true] at hkr
    have hag := Agree.refl (rdOpd o) (den c)
    rw [WcX_cond] at h
    split at h
    · rename_i t ho
      have hv := (opd_rep hag hR (Sub.refl _) ho).lit_eq.1
      cases t with
      | true => exact wpIn_cond_true hv (ihp c n x r hk.1 hkr.1 h g a w hR)
      | false => exact wpIn_cond_false hv (ihq c n x r hk.2 hkr.2 h g a w hR)
    · rename_i t ho
      have hv := (opd_rep hag hR (Sub.refl _) ho).sb_eq
      have hR' := cond_rel hR ho
      cases t with
      | true => exact wpIn_cond_true hv (ihp _ n x r hk.1 hkr.1 (h.1 rfl) g a w (by rw [den_crefine]; exact hR'))
      | false => exact wpIn_cond_false hv (ihq _ n x r hk.2 hkr.2 (h.2 rfl) g a w (by rw [den_crefine]; exact hR'))
    · exact h.elim
  | block i q ih =>
    intro c n x r hk hkr h g a w hR
    refine wpIn_block (Go.wpIn_mono (ih c n _ r hk hkr h g a w hR) fun ex a w hp => ?_)
    cases ex with
    | normal => exact hp
    | exit j =>
      obtain ⟨c', g', h1, h2⟩ := hp
      simp only [Exit.inBlock]
      by_cases hj : j = i
      · rw [if_pos hj]; subst hj; rw [Nat.beq_refl] at h1; exact ⟨c', g', h1, h2⟩
      · rw [if_neg hj]; rw [Nat.beq_ne hj] at h1; exact ⟨c', g', h1, h2⟩
    | _ => exact hp
  | loop q ih =>
    intro c n x r hk hkr h g a w hR
    obtain ⟨α, I, μ, y, h1, h2⟩ := h
    obtain ⟨g0, hR0⟩ := hR.le h1
    generalize hSS : (fun (a : Act) (w : World) (m : Nat) => ∃ y g, μ y = m ∧ Rel cx g (mkE (I y)) a w) = S
    have hS1 : ∀ {a : Act} {w : World} {m : Nat}, (∃ y g, μ y = m ∧ Rel cx g (mkE (I y)) a w) → S a w m := fun h => by rw [← hSS]; exact h
    have hS2 : ∀ {a : Act} {w : World} {m : Nat}, S a w m → (∃ y g, μ y = m ∧ Rel cx g (mkE (I y)) a w) := fun h => by rw [← hSS] at h; exact h
    refine wpIn_loop (fun a w => ∃ m, S a w m) (fun a w => least (S a w)) ⟨μ y, hS1 ⟨y, g0, rfl, hR0⟩⟩ fun a w hS => ?_
    obtain ⟨y1, g1, h3, h4⟩ := hS2 (least_spec hS).1
    refine Go.wpIn_mono (ih (mkC (I y1)) _ x r hk hkr (h2 y1) g1 a w (by rw [den_mkC]; exact h4)) fun ex a' w' hp => ?_
    cases ex with
    | normal =>
      obtain ⟨c', g', ⟨z, h5, h6⟩, h7⟩ := hp
      obtain ⟨g2, h8⟩ := h7.le h6
      have hz : S a' w' (μ z) := hS1 ⟨z, g2, rfl, h8⟩
      refine ⟨⟨_, hz⟩, ?_⟩
      have := (least_spec ⟨_, hz⟩).2 _ hz
      omega
    | _ => exact hp
  | scope q ih => intro c n x r _ hkr; cases hkr
  | label l => intro c n x r _ _ h g a w hR; exact wpIn_label ⟨c, g, h, hR⟩
  | exit i => intro c n x r _ _ h g a w hR; exact wpIn_exit ⟨c, g, h, hR⟩
  | ret => intro c n x r _ _ h g a w hR; exact wpIn_ret ⟨c, g, h, hR⟩
  | rangeFunc => intro c n x r _ _ h; exact h.elim
  | goto => intro c n x r _ _ h; exact h.elim
  | refuse => intro c n x r _ _ h; exact h.elim

end
end Fp

/- Ranges over a function: the loop's record, calls of yield. No condition. -/
namespace Fp
open Go Go.MapKept Go.ChangeMaps

section
variable {P : Program} {T : TT} {rd : Option Nat}

/-- A block is laid that is told raw. -/
theorem Rel.newRaw {cx : Ctx} {g : G} {e : Env} {a : Act} {w : World} (h : Rel cx g e a w) (o : Obj) {p : Obj → Prop} (hp : p o) :
    ∃ g', (∀ b, b < w.heap.size → g'.F b = g.F b) ∧ Rel cx g' { e with heap := e.heap ++ [(w.heap.size, HO.raw p)] } a (w.alloc o) := by
  have hgr := Grow.alloc w o
  have hnew : (w.alloc o).heap[w.heap.size]? = some o := World.heap_alloc_new w _
  have h1 := h.extend hgr (b0 := w.heap.size) (Nat.le_refl _) (heap_lt hnew) (some 0) .obj (fun s q h => by cases h)
  have hlt : ∀ b, b < w.heap.size → b ≠ w.heap.size := fun b hb he => by omega
  have kp : Keeps g.F w (fun b => if b = w.heap.size then some 0 else g.F b) (w.alloc o) := hgr.keeps (fun b hb => by simp [hlt b hb])
  have hold : ∀ b ∈ keys e.heap, b < w.heap.size := fun b hb => by
    obtain ⟨x, hx, rfl⟩ := List.mem_map.1 hb
    exact (h.heap.ok x hx).lt
  have hk : keys (e.heap ++ [(w.heap.size, HO.raw p)]) = keys e.heap ++ [w.heap.size] := by simp [keys]
  refine ⟨_, fun b hb => ?_, h1.heapTo ⟨?_, fun b hb => ?_, fun x hx => ?_⟩ fun b hb => ?_⟩
  · simp only [hlt b hb, if_false]
  · rw [hk]
    refine List.nodup_append.2 ⟨h.heap.nodup, by simp, ?_⟩
    rintro a ha b hb rfl
    simp at hb
    exact hlt a (hold a ha) hb
  · rw [hk] at hb
    rcases List.mem_append.1 hb with hb | hb
    · simp only [hlt b (hold b hb), if_false]; exact h.heap.shut b hb
    · simp at hb; simp [hb]
  · rcases List.mem_append.1 hx with hx | hx
    · exact (h.heap.ok x hx).grow kp (fun hb => hgr.block _ hb)
    · simp at hx; subst hx
      exact ⟨o, hnew, hp⟩
  · rw [hk] at hb
    rcases List.mem_append.1 hb with hb | hb
    · simp only [hlt b (hold b hb), if_false]; exact h.heapO b hb
    · simp at hb; simp [hb]

/-- What is no cells and no map. -/
def rawObj (o : Obj) : Prop := (∀ cs E fr, o ≠ .cells cs E fr) ∧ (∀ es c, o ≠ .map es c)

/-- A raw block is written. -/
theorem Rel.setRaw {cx : Ctx} {g : G} {e : Env} {a : Act} {w : World} (h : Rel cx g e a w) {i b : Nat} {p q : Obj → Prop} (hi : e.heap[i]? = some (b, HO.raw p)) (hr : ∀ o, p o → rawObj o) (o : Obj) (hq : q o) :
    Rel cx g { e with heap := e.heap.set i (b, HO.raw q) } a (w.putObj b o) := by
  have hmem := List.mem_of_getElem? hi
  have hkey : b ∈ keys e.heap := List.mem_map.2 ⟨_, hmem, rfl⟩
  have p2 := h.heapO b hkey
  have p3 := h.heap.shut b hkey
  obtain ⟨o0, m1, hp0⟩ := h.heap.ok _ hmem
  simp only at m1
  have hraw := hr o0 hp0
  have hlt := heap_lt m1
  obtain ⟨w', hw'⟩ : ∃ w', w' = w.putObj b o := ⟨_, rfl⟩
  rw [← hw']
  have now : w'.heap[b]? = some o := by rw [hw']; exact World.putObj_heap_same hlt
  have blk : ∀ j, j ≠ b → w'.heap[j]? = w.heap[j]? := fun j hj => by rw [hw']; exact World.putObj_heap_other hj
  have hsz : w'.heap.size = w.heap.size := by rw [hw']; simp
  have notCells : ∀ {cs E fr}, w.heap[b]? ≠ some (.cells cs E fr) := fun {cs E fr} e => by rw [m1] at e; injection e with e; exact hraw.1 _ _ _ e
  have kp : Keeps g.F w g.F w' := ⟨fun b2 k u hc hm => ⟨by
    by_cases hne : b2 = b
    · subst hne
      unfold World.cell? at hc
      rw [m1] at hc
      simp only [Option.bind_some] at hc
      cases o0 with
      | cells cs E fr => exact absurd rfl (hraw.1 cs E fr)
      | _ => simp at hc
    · rw [World.cell_of_heap (blk b2 hne)]; exact hc, hm⟩, fun b2 es2 c2 hc hm => ⟨by
    by_cases hne : b2 = b
    · subst hne
      rw [m1] at hc; injection hc with hc; exact absurd hc (hraw.2 _ _)
    · exact (blk b2 hne).trans hc, hm⟩⟩
  have m : Mem g w g w' := ⟨kp, fun b2 s q hb => ⟨hb, rfl, blk b2 (fun e => by subst e; rw [p2] at hb; cases hb)⟩, fun b s q hb => .inl hb⟩
  have hks : keys (e.heap.set i (b, HO.raw q)) = keys e.heap := by
    unfold keys
    rw [List.map_set]
    refine List.ext_getElem? fun j => ?_
    by_cases hj : i = j
    · subst hj
      rw [List.getElem?_set_self (by simpa using (List.getElem?_eq_some_iff.1 hi).1), List.getElem?_map, hi]; rfl
    · rw [List.getElem?_set_ne hj]
  refine { size := h.size, defers := h.defers, kept := ?_, fext := h.fext, old := h.old, hkO := h.hkO, hkin := h.hkin, fresh := fun b hb => h.fresh b (by rw [← hsz]; exact hb), freshO := fun b hb => h.freshO b (by rw [← hsz]; exact hb),
           slots := fun s => (h.slots s).mem m, own := fun s c sz v ho hpv => ?_, heap := ?_, heapO := fun b2 hb2 => h.heapO b2 (by rw [← hks]; exact hb2), al := h.al }
  · refine ⟨by rw [hw']; exact h.kept.os, by rw [hw']; exact h.kept.tape, by rw [hw']; exact h.kept.output, by rw [hsz]; exact h.kept.size, fun b2 hb2 => ?_⟩
    by_cases hne : b2 = b
    · subst hne
      exact .inl (h.hkin b2 hb2 p2)
    · rcases h.kept.block b2 hb2 with h1 | ⟨h1, cs, cs', E, mm, q1, q2, q3, q4, q5⟩ | h1
      · exact .inl h1
      · exact .inr (.inl ⟨h1, cs, cs', E, mm, q1, by rw [blk b2 hne]; exact q2, q3, q4, q5⟩)
      · exact .inr (.inr ((blk b2 hne).trans h1))
  · have ht := h.own s c sz v ho (PlaceVal.back h (fun b2 s q hb => (m.box b2 s q hb).2.2) hpv)
    refine ⟨?_, ht.2⟩
    rcases ht.1 with h3 | h3 | ⟨b2, off, n, cap, cs2, E2, q1, q2, q3, q4, q5⟩
    · exact .inl h3
    · exact .inr (.inl h3)
    · refine .inr (.inr ⟨b2, off, n, cap, cs2, E2, q1, q2, q3, ?_, q5⟩)
      rw [blk b2 (fun e => by subst e; exact notCells q4)]
      exact q4
  · refine ⟨by show (keys (e.heap.set i (b, HO.raw q))).Nodup; rw [hks]; exact h.heap.nodup, fun b2 hb2 => h.heap.shut b2 (by rw [← hks]; exact hb2), fun x hx => ?_⟩
    obtain ⟨j, hj⟩ := List.getElem?_of_mem hx
    by_cases hij : i = j
    · subst hij
      change (e.heap.set i (b, HO.raw q))[i]? = some x at hj
      rw [List.getElem?_set_self (List.getElem?_eq_some_iff.1 hi).1] at hj
      injection hj with hj
      subst hj
      exact ⟨o, now, hq⟩
    · change (e.heap.set i (b, HO.raw q))[j]? = some x at hj
      rw [List.getElem?_set_ne hij] at hj
      have hxb : x.1 ≠ b := fun e1 => by
        have hn := h.heap.nodup
        have h1 : (keys e.heap)[i]? = some b := by simp [keys, hi]
        have h2 : (keys e.heap)[j]? = some b := by simp [keys, hj, e1]
        exact hij ((List.getElem?_inj (by simpa [keys] using (List.getElem?_eq_some_iff.1 hi).1) hn).1 (h1.trans h2.symm))
      exact (h.heap.ok x (List.mem_of_getElem? hj)).grow kp (fun _ => blk _ hxb)

/-- What has come back from a call to which all known blocks, or some, were handed. -/
theorem call_back {cx : Ctx} {g : G} {e : Env} {ac : Act} {w : World} (hR : Rel cx g e ac w) {hin rest : List (Nat × HO)} (hsub : ∀ x ∈ hin, x ∈ e.heap) (hrest : ∀ x ∈ rest, x ∈ e.heap ∧ x.1 ∉ keys hin) (hrn : (keys rest).Nodup) {post : AV → Nat → List (Nat × HO) → Prop} {en : Ending} {w' : World} (hpost : CallPost g.F (keys hin) [] w post en w') :
    ∃ v r n' hout g', en = .returned v ∧ post r n' hout ∧ Rep g'.F w' v r ∧ Rel cx g' { e with heap := rest ++ hout } ac w' := by
  obtain ⟨v, r, n', hout, F', rfl, p1, p2, p3, p4, p5, p6, p7, p8⟩ := hpost
  have hcd := Rel.called (d := 0) (tb := none) hR (hin := hin) (hout := hout) (rest := rest) (yk := []) (F' := F') hsub hrest hrn (fun b hb => by simp at hb) p4 p5 p6 p7 p8 (fun b hb => by cases hb)
  exact ⟨v, r, n', hout, _, rfl, p1, p2, hcd⟩

/-- A call of yield, with blocks that hold this, somewhere behind the memory w0. -/
def YieldG (P : Program) (F0 : Nat → Option Nat) (w0 : World) (l : Nat) (hin : List (Nat × HO)) (args : List AV) (post : AV → Nat → List (Nat × HO) → Prop) : Prop :=
  ∀ F w (vs : List Value) m, Keeps F0 w0 F w → Fresh F w → HeapIn F w hin → ArgsOk F w vs args [] → ∃ fn tmps assign body, (Instr.yield l vs.toArray).run P w = .ok (.round l fn tmps assign body) w ∧ RoundIn (FW none) m P l fn tmps assign body w (CallPost F (keys hin) [] w post)

/-- Code in a round or not, in a frame of some make. -/
def WsemB (B : Ctx → Prop) (rd : Option Nat) (P : Program) (q : Code) (c : CE) (n : CE → Prop) (x : Nat → CE → Prop) (r : CE → Prop) : Prop :=
  ∀ cx : Ctx, B cx → cx.yk = [] → codeOkH cx.n q = true → codeOkR q = true → ∀ g a w, Rel cx g (den c) a w → ∀ m, q.wpIn (FW rd) m P (CPost cx n x r) a w

variable {B : Ctx → Prop}
theorem WsemB.of (hT : TTok P T) (hm : P.follows .mixedOrders = true) {q : Code} {c : CE} {n : CE → Prop} {x : Nat → CE → Prop} {r : CE → Prop} (h : WcX P T q c n x r) : WsemB B rd P q c n x r :=
  fun _ _ hyk hk hkr g a w hR _ => wcx_soundIn hT hm hyk q c n x r hk hkr h g a w hR
theorem WsemB.seqS {p q : Code} {c : CE} {n : CE → Prop} {x : Nat → CE → Prop} {r : CE → Prop} (h : WsemB B rd P p c (fun c => WsemB B rd P q c n x r) x r) : WsemB B rd P (.seq p q) c n x r := by
  intro cx hB hyk hk hkr g a w hR m
  simp only [codeOkH, Bool.and_eq_true] at hk
  simp only [codeOkR, Bool.and_eq_true] at hkr
  refine wpIn_seq (Go.wpIn_mono (h cx hB hyk hk.1 hkr.1 g a w hR m) fun ex a w hp => ?_)
  cases ex with
  | normal => obtain ⟨c', g', h1, h2⟩ := hp; exact h1 cx hB hyk hk.2 hkr.2 g' a w h2 m
  | _ => exact hp
theorem WsemB.seq (hT : TTok P T) (hm : P.follows .mixedOrders = true) {p q : Code} {c : CE} {n : CE → Prop} {x : Nat → CE → Prop} {r : CE → Prop} (h : WcX P T p c (fun c => WsemB B rd P q c n x r) x r) : WsemB B rd P (.seq p q) c n x r := WsemB.seqS (WsemB.of hT hm h)
theorem WsemB.cut (fr : Fr) {q : Code} {c : CE} {n : CE → Prop} {x : Nat → CE → Prop} {r : CE → Prop} (hle : le (den c) fr) (h : WsemB B rd P q (mkC fr) n x r) : WsemB B rd P q c n x r := by
  intro cx hB hyk hk hkr g a w hR m
  obtain ⟨g', hR'⟩ := hR.le hle
  exact h cx hB hyk hk hkr g' a w (by rw [den_mkC]; exact hR') m
theorem WsemB.drop {q : Code} {vs : List (Nat × SV)} {ow : List (Nat × Nat × Nat)} {al : List Nat} {hp hp' : List (Nat × HO)} {n : CE → Prop} {x : Nat → CE → Prop} {r : CE → Prop} (hs : hp'.Sublist hp) (h : WsemB B rd P q ⟨vs, ow, al, hp'⟩ n x r) : WsemB B rd P q ⟨vs, ow, al, hp⟩ n x r := by
  intro cx hB hyk hk hkr g a w hR m
  exact h cx hB hyk hk hkr g a w (hR.drop (e := den ⟨vs, ow, al, hp⟩) hs) m
theorem WsemB.block {i : Nat} {q : Code} {c : CE} {n : CE → Prop} {x : Nat → CE → Prop} {r : CE → Prop} (h : WsemB B rd P q c n (fun j c => match Nat.beq j i with | true => n c | false => x j c) r) : WsemB B rd P (.block i q) c n x r := by
  intro cx hB hyk hk hkr g a w hR m
  refine wpIn_block (Go.wpIn_mono (h cx hB hyk hk hkr g a w hR m) fun ex a w hp => ?_)
  cases ex with
  | normal => exact hp
  | exit j =>
    obtain ⟨c', g', h1, h2⟩ := hp
    simp only [Exit.inBlock]
    by_cases hj : j = i
    · rw [if_pos hj]; subst hj; rw [Nat.beq_refl] at h1; exact ⟨c', g', h1, h2⟩
    · rw [if_neg hj]; rw [Nat.beq_ne hj] at h1; exact ⟨c', g', h1, h2⟩
  | _ => exact hp
theorem WsemB.loop {q : Code} {c : CE} {n : CE → Prop} {x : Nat → CE → Prop} {r : CE → Prop} {α : Type} (I : α → Fr) (μ : α → Nat) (y : α) (hle : le (den c) (I y)) (h : ∀ y, WsemB B rd P q (mkC (I y)) (fun c => ∃ z, μ z < μ y ∧ le (den c) (I z)) x r) : WsemB B rd P (.loop q) c n x r := by
  intro cx hB hyk hk hkr g a w hR m
  obtain ⟨g0, hR0⟩ := hR.le hle
  generalize hSS : (fun (a : Act) (w : World) (m : Nat) => ∃ y g, μ y = m ∧ Rel cx g (mkE (I y)) a w) = S
  have hS1 : ∀ {a : Act} {w : World} {m : Nat}, (∃ y g, μ y = m ∧ Rel cx g (mkE (I y)) a w) → S a w m := fun h => by rw [← hSS]; exact h
  have hS2 : ∀ {a : Act} {w : World} {m : Nat}, S a w m → (∃ y g, μ y = m ∧ Rel cx g (mkE (I y)) a w) := fun h => by rw [← hSS] at h; exact h
  refine wpIn_loop (fun a w => ∃ m, S a w m) (fun a w => least (S a w)) ⟨μ y, hS1 ⟨y, g0, rfl, hR0⟩⟩ fun a w hS => ?_
  obtain ⟨y1, g1, h3, h4⟩ := hS2 (least_spec hS).1
  refine Go.wpIn_mono (h y1 cx hB hyk hk hkr g1 a w (by rw [den_mkC]; exact h4) m) fun ex a' w' hp => ?_
  cases ex with
  | normal =>
    obtain ⟨c', g', ⟨z, h5, h6⟩, h7⟩ := hp
    obtain ⟨g2, h8⟩ := h7.le h6
    have hz : S a' w' (μ z) := hS1 ⟨z, g2, rfl, h8⟩
    refine ⟨⟨_, hz⟩, ?_⟩
    have := (least_spec ⟨_, hz⟩).2 _ hz
    omega
  | _ => exact hp

end
end Fp

/- Ranges over a function: the iterator, a round, the loop. No condition. -/
namespace Fp
open Go Go.MapKept Go.ChangeMaps

section
variable {P : Program} {T : TT} {rd : Option Nat} {B : Ctx → Prop}

abbrev yv (l : Nat) : Value := .func (.yield l) #[] #[]
/-- What a round that goes on comes to. -/
abbrev goesY (h' : List (Nat × HO)) : AV → Nat → List (Nat × HO) → Prop := fun r _ h => r = .lit (.bool true) ∧ h = h'

/-- The function, with what it holds, hands these to whatever yield that is said to go on with them, in their row, and comes back. -/
def IterG (P : Program) (n : Nat) (l m : List AV) (N : Nat) (xs : Nat → List AV) : Prop :=
  Enters P n ∧ ∀ (hp : Nat → List (Nat × HO)) (l0 : Nat) (F : Nat → Option Nat) (w : World) (vs us : List Value) (k0 : Nat),
    (∀ k, k < N → YieldG P F w l0 (hp k) (xs k) (goesY (hp (k + 1)))) → Fresh F w → HeapIn F w (hp 0) → vs.length = l.length → (∀ (i : Nat) v a, vs[i]? = some v → l[i]? = some a → Rep F w v a) → us.length = m.length → (∀ (i : Nat) v a, us[i]? = some v → m[i]? = some a → Rep F w v a) →
    CallsIn (FW none) k0 P n (vs ++ ([yv l0] ++ us)).toArray w (CallPost F (keys (hp 0)) [] w (fun _ _ h => h = hp N))

def allV (vs : List (Nat × SV)) : Bool := vs.all fun p => match p.2 with
  | .v _ => true
  | _ => false
theorem allV_look {vs : List (Nat × SV)} (h : allV vs = true) (s : Nat) : lookS vs s = .junk ∨ ∃ a, lookS vs s = .v a := by
  induction vs with
  | nil => exact .inl rfl
  | cons p r ih =>
    obtain ⟨i, x⟩ := p
    simp only [allV, List.all_cons, Bool.and_eq_true] at h
    simp only [lookS]
    cases hb : Nat.beq i s with
    | true =>
      simp only [cond_true]
      cases x with
      | v a => exact .inr ⟨a, rfl⟩
      | _ => simp at h
    | false =>
      simp only [cond_false]
      exact ih h.2

/-- A loop's record. -/
def isLp (q : Obj → Prop) : Prop := ∀ o, q o → ∃ r, o = .loop r
theorem isLp.raw {q : Obj → Prop} (h : isLp q) : ∀ o, q o → rawObj o := fun o ho => by
  obtain ⟨r, rfl⟩ := h o ho
  exact ⟨by simp, by simp⟩
theorem isLp_eq (r : Loop) : isLp (fun o => o = .loop r) := fun o h => ⟨r, h⟩

/-- One round: the assignments to the loop's two variables, and the body. -/
def RoundOk (P : Program) (p1 p2 : Nat) (assign body : Code) (vs : List (Nat × SV)) (h h' : List (Nat × HO)) (a1 a2 : AV) : Prop :=
  ∀ (l0 : Nat) (q1 q2 : Obj → Prop), isLp q1 → isLp q2 → WsemB (fun _ => True) (some l0) P assign ⟨(p1, .v a1) :: (p2, .v a2) :: vs, [], [], h ++ [(l0, HO.raw q1)]⟩
    (fun c => c.hp = h ++ [(l0, HO.raw q1)] ∧ WsemB (fun _ => True) (some l0) P body ⟨c.vs, c.ow, c.al, h ++ [(l0, HO.raw q2)]⟩ (fun c => (h' ++ [(l0, HO.raw q2)]).Sublist c.hp) (fun _ _ => False) (fun _ => False)) (fun _ _ => False) (fun _ => False)

theorem set_last {α : Type} (l : List α) (x y : α) : (l ++ [x]).set l.length y = l ++ [y] := by
  rw [List.set_append_right _ _ (Nat.le_refl _)]
  simp

theorem yieldG_of {p1 p2 : Nat} {assign body : Code} {vs0 : List (Nat × SV)} (hv0 : allV vs0 = true) {h h' : List (Nat × HO)} {a1 a2 : AV} (hr : RoundOk P p1 p2 assign body vs0 h h' a1 a2) {tmps : Array Value} (hne : p1 ≠ p2) (hp1 : p1 < tmps.size) (hp2 : p2 < tmps.size)
    (hk1 : codeOkH tmps.size assign = true) (hk2 : codeOkH tmps.size body = true) (hr1 : codeOkR assign = true) (hr2 : codeOkR body = true) {F0 : Nat → Option Nat} {w0 : World} (hrep : ∀ s a, lookS vs0 s = .v a → Rep F0 w0 (tmps.getD s undef) a) {fn D : Nat} {l0 : Nat} :
    YieldG P F0 w0 l0 (h ++ [(l0, HO.raw (fun o => o = .loop { state := .ready, pending := none, fn := fn, tmps := tmps, params := #[p1, p2], assign := assign, body := body, defers := D }))]) [a1, a2]
      (goesY (h' ++ [(l0, HO.raw (fun o => o = .loop { state := .ready, pending := none, fn := fn, tmps := tmps, params := #[p1, p2], assign := assign, body := body, defers := D }))])) := by
  intro F w vs m hkp hfr hh ha
  obtain ⟨rec, hrec⟩ : ∃ rec : LoopState → Loop, rec = fun st => { state := st, pending := none, fn := fn, tmps := tmps, params := #[p1, p2], assign := assign, body := body, defers := D } := ⟨_, rfl⟩
  have hsame : ({ state := .ready, pending := none, fn := fn, tmps := tmps, params := #[p1, p2], assign := assign, body := body, defers := D } : Loop) = rec .ready := by rw [hrec]
  rw [hsame] at hh ⊢
  have hl : w.heap[l0]? = some (.loop (rec .ready)) := by
    obtain ⟨o, h1, h2⟩ := hh.ok (l0, HO.raw (fun o => o = .loop (rec .ready))) (by simp)
    rw [h2] at h1; exact h1
  have hlen : vs.length = 2 := ha.len
  obtain ⟨u1, u2, rfl⟩ : ∃ u1 u2, vs = [u1, u2] := by
    match vs, hlen with
    | [u1, u2], _ => exact ⟨u1, u2, rfl⟩
  have ra1 : Rep F w u1 a1 := ha.rep 0 u1 a1 rfl rfl
  have ra2 : Rep F w u2 a2 := ha.rep 1 u2 a2 rfl rfl
  have hy := run_yield (P := P) (args := #[u1, u2]) hl (by rw [hrec]; rfl)
  have htm : ((rec .ready).params.zip #[u1, u2]).foldl (fun tmps (t, a) => tmps.setIfInBounds t a) (rec .ready).tmps = (tmps.setIfInBounds p1 u1).setIfInBounds p2 u2 := by
    rw [hrec]
    simp only [← Array.foldl_toList, Array.toList_zip]
    rfl
  have hfn : (rec .ready).fn = fn ∧ (rec .ready).assign = assign ∧ (rec .ready).body = body := by rw [hrec]; exact ⟨rfl, rfl, rfl⟩
  rw [htm, hfn.1, hfn.2.1, hfn.2.2] at hy
  refine ⟨_, _, _, _, hy, ?_⟩
  clear htm hfn hy
  generalize hin : h ++ [(l0, HO.raw (fun o => o = .loop (rec .ready)))] = hi at hh
  let cx : Ctx := { n := tmps.size, W := w, F := F, hk := keys hi, yk := [] }
  have getT : ∀ s, ((tmps.setIfInBounds p1 u1).setIfInBounds p2 u2).getD s undef = if s = p2 then u2 else if s = p1 then u1 else tmps.getD s undef := fun s => by
    simp only [Array.getD_eq_getD_getElem?, Array.getElem?_setIfInBounds, Array.size_setIfInBounds]
    by_cases h2 : p2 = s
    · subst h2; simp [hp2]
    · simp only [h2, if_false, Ne.symm h2, if_neg (fun e : s = p2 => h2 e.symm)]
      by_cases h1 : p1 = s
      · subst h1; simp [hp1]
      · simp [h1, Ne.symm h1, fun e : s = p1 => h1 e.symm]
  have hR0 : Rel cx { F := F, O := fun b => if b ∈ keys hi then .obj else .no } (den ⟨(p1, .v a1) :: (p2, .v a2) :: vs0, [], [], hi⟩) { tmps := (tmps.setIfInBounds p1 u1).setIfInBounds p2 u2, defers := [] } w := by
    have hlt : ∀ b ∈ keys hi, b < w.heap.size := fun b hb => by
      obtain ⟨x, hx, rfl⟩ := List.mem_map.1 hb
      exact (hh.ok x hx).lt
    refine { size := by simp [cx], defers := rfl, kept := ⟨rfl, rfl, rfl, Nat.le_refl _, fun _ _ => .inr (.inr rfl)⟩, fext := fun _ _ => .inl rfl, old := fun b hb _ => ?_, hkO := hlt, hkin := fun b _ ho => ?_, fresh := hfr, freshO := fun b hb => ?_, slots := fun s => ?_, own := fun s c sz v ho => ?_, heap := hh, heapO := fun b hb => if_pos hb, al := fun b s hb => ?_ }
    · by_cases hk : b ∈ keys hi
      · exact .inr ⟨hk, if_pos hk⟩
      · exact .inl (if_neg hk)
    · by_cases hk : b ∈ keys hi
      · exact hk
      · simp [hk] at ho
    · exact if_neg fun hk => by have := hlt b hk; omega
    · show SlotOk _ w s (lookS ((p1, .v a1) :: (p2, .v a2) :: vs0) s) _
      rw [getT s]
      simp only [lookS]
      by_cases h2 : p2 = s
      · subst h2
        rw [Nat.beq_ne hne, cond_false, Nat.beq_refl, cond_true, if_pos rfl]
        exact ra2
      · rw [if_neg (fun e => h2 e.symm)]
        by_cases h1 : p1 = s
        · subst h1
          rw [Nat.beq_refl, cond_true, if_pos rfl]
          exact ra1
        · rw [Nat.beq_ne h1, cond_false, if_neg (fun e => h1 e.symm), Nat.beq_ne h2, cond_false]
          rcases allV_look hv0 s with h3 | ⟨a, h3⟩
          · rw [h3]; trivial
          · rw [h3]; exact (hrep s a h3).mono hkp
    · simp [den, lookW] at ho
    · by_cases hk : b ∈ keys hi <;> simp [hk] at hb
  subst hin
  refine roundIn_of_wpIn trivial (Go.wpIn_mono (hr l0 _ (fun o => o = .loop (rec .busy)) (isLp_eq _) (isLp_eq _) cx trivial rfl hk1 hr1 _ _ _ hR0 m) fun ex a w1 hp => ?_)
  cases ex with
  | normal =>
    obtain ⟨c1, g1, ⟨hc1, hbody⟩, hR1⟩ := hp
    have hi1 : (den c1).heap[h.length]? = some (l0, HO.raw (fun o => o = .loop (rec .ready))) := by
      show c1.hp[h.length]? = _
      rw [hc1]; simp
    obtain ⟨o1, ho1, ho2⟩ := hR1.heap.ok _ (List.mem_of_getElem? hi1)
    simp only at ho1
    rw [ho2] at ho1
    refine ⟨_, run_beginRound ho1 (by rw [hrec]), ?_⟩
    have hbz : ({ rec .ready with state := .busy } : Loop) = rec .busy := by rw [hrec]
    rw [hbz]
    have hR2 := hR1.setRaw hi1 (isLp_eq _).raw (.loop (rec .busy)) (q := fun o => o = .loop (rec .busy)) rfl
    have he2 : { den c1 with heap := (den c1).heap.set h.length (l0, HO.raw (fun o => o = .loop (rec .busy))) } = den ⟨c1.vs, c1.ow, c1.al, h ++ [(l0, HO.raw (fun o => o = .loop (rec .busy)))]⟩ := by
      have : (den c1).heap.set h.length (l0, HO.raw (fun o => o = .loop (rec .busy))) = h ++ [(l0, HO.raw (fun o => o = .loop (rec .busy)))] := by
        show c1.hp.set _ _ = _
        rw [hc1, set_last]
      rw [this]; rfl
    rw [he2] at hR2
    refine Go.wpIn_mono (hbody cx trivial rfl hk2 hr2 _ _ _ hR2 m) fun ex a3 w3 hp => ?_
    cases ex with
    | normal =>
      obtain ⟨c3, g3, hs3, hR3⟩ := hp
      have hR4 := hR3.drop hs3
      have hi3 : (h' ++ [(l0, HO.raw (fun o => o = .loop (rec .busy)))])[h'.length]? = some (l0, HO.raw (fun o => o = .loop (rec .busy))) := by simp
      obtain ⟨o3, ho3, ho4⟩ := hR4.heap.ok _ (List.mem_of_getElem? hi3)
      simp only at ho3
      rw [ho4] at ho3
      have hR5 := hR4.setRaw hi3 (isLp_eq _).raw (.loop (rec .ready)) (q := fun o => o = .loop (rec .ready)) rfl
      have hend := run_endRound (P := P) (jump := none) ho3
      have hrd : ({ rec .busy with state := if (none : Option Code).isNone then LoopState.ready else .done, pending := none } : Loop) = rec .ready := by rw [hrec]; rfl
      rw [hrd] at hend
      refine ⟨_, _, hend, .bool true, .lit (.bool true), 0, _, g3.F, rfl, ⟨rfl, ?_⟩, .lit _ rfl, (fun sz h => by cases h), hR5.kept, hR5.fext, hR5.fresh, hR5.heap, fun b hb => ?_⟩
      · exact set_last _ _ _
      · rcases Nat.lt_or_ge b w.heap.size with h2 | h2
        · exact .inl (hR5.hkin b h2 (hR5.heapO b hb))
        · exact .inr h2
    | ret => obtain ⟨_, _, h, _⟩ := hp; exact h.elim
    | exit i => obtain ⟨_, _, h, _⟩ := hp; exact h.elim
    | goto l => exact hp.elim
    | panic ch => exact hp.elim
    | outgrown => exact hp.elim
  | ret => obtain ⟨_, _, h, _⟩ := hp; exact h.elim
  | exit i => obtain ⟨_, _, h, _⟩ := hp; exact h.elim
  | goto l => exact hp.elim
  | panic ch => exact hp.elim
  | outgrown => exact hp.elim
end
end Fp

/- Ranges over a function: the statement; functions that hold one. No condition. -/
namespace Fp
open Go Go.MapKept Go.ChangeMaps

section
variable {P : Program} {T : TT} {rd : Option Nat} {B : Ctx → Prop}

def markD (D : Nat) : Deferred := { target := .collected D, args := #[] }
def rawD : Obj → Prop := fun o => o = .deferred (some [])
theorem leV_vals {e e' : Env} (h : e.vals = e'.vals) : ∀ {l : List (Nat × SV)}, leV e l → leV e' l
  | [], _ => trivial
  | (s, x) :: r, hl => ⟨by rw [← h]; exact hl.1, leV_vals h hl.2⟩
/-- The values of a frame. -/
theorem Rel.vals {cx : Ctx} {g : G} {e : Env} {a : Act} {w : World} (h : Rel cx g e a w) {vs0 : List (Nat × SV)} {e0 : Env} (he0 : e0.vals = e.vals) (hle0 : leV e0 vs0) {s : Nat} {b : AV} (hb : lookS vs0 s = .v b) : Rep g.F w (a.tmps.getD s undef) b := by
  have hle := leV_vals he0 hle0
  have h1 := h.slots s
  rcases lookS_spec s hle with q | q
  · rw [q] at hb; cases hb
  · rw [hb] at q
    have key : SlotOk g w s (rfv (e.vals s)) (a.tmps.getD s undef) := by
      cases hx : e.vals s with
      | v y => rw [hx] at h1; exact h1
      | _ =>
        exfalso
        rw [hx] at q
        unfold leS at q
        split at q <;> simp [wks] at q
    exact leS_slot key q

/-- What the loop comes to, whichever block its record is. -/
theorem range_core {p1 p2 : Nat} {assign body : Code} {ac : Act} {w1 : World} {cx : Ctx} {e : Env} {g1 : G} (hyk : cx.yk = []) {vs0 : List (Nat × SV)} (hv0 : allV vs0 = true) (hvs : ∀ s a, lookS vs0 s = .v a → Rep g1.F w1 (ac.tmps.getD s undef) a)
    (hne : p1 ≠ p2) (hp1 : p1 < cx.n) (hp2 : p2 < cx.n) (hk1 : codeOkH cx.n assign = true) (hk2 : codeOkH cx.n body = true) (hr1 : codeOkR assign = true) (hr2 : codeOkR body = true)
    {n : Nat} {fl fm : List AV} {N : Nat} {xs : Nat → List AV} (hIt : IterG P n fl fm N xs) {hp : Nat → List (Nat × HO)} (hround : ∀ k, k < N → ∃ a1 a2, xs k = [a1, a2] ∧ RoundOk P p1 p2 assign body vs0 (hp k) (hp (k + 1)) a1 a2)
    {fn D l0 : Nat} {rest : List (Nat × HO)} (he : ∃ A, e.heap = A ∧ (hp 0 ++ [(l0, HO.raw (fun o => o = .loop { state := .ready, pending := none, fn := fn, tmps := ac.tmps, params := #[p1, p2], assign := assign, body := body, defers := D }))]).Sublist A ∧ ∀ x ∈ rest, x ∈ A ∧ x.1 ∉ keys (hp 0 ++ [(l0, HO.raw (fun o => o = .loop { state := .ready, pending := none, fn := fn, tmps := ac.tmps, params := #[p1, p2], assign := assign, body := body, defers := D }))])) (hrn : (keys rest).Nodup)
    (hR : Rel cx g1 e ac w1) {vs us : List Value} (h1 : vs.length = fl.length) (h2 : ∀ (i : Nat) v a, vs[i]? = some v → fl[i]? = some a → Rep g1.F w1 v a) (h3 : us.length = fm.length) (h4 : ∀ (i : Nat) v a, us[i]? = some v → fm[i]? = some a → Rep g1.F w1 v a) (k0 k1 : Nat) {Q : Exit → Act → World → Prop} {a' : Act} {dss : List Deferred} (ha' : a' = { ac with defers := dss })
    (hQ : ∀ g' w', Rel cx g' { e with heap := rest ++ hp N } ac w' → Q .normal a' w') :
    CallsIn (FW rd) k0 P n (vs ++ ([yv l0] ++ us)).toArray w1 (rangePost (FW rd) k1 P l0 Q a') := by
  obtain ⟨rec, hrec⟩ : ∃ rec : Loop, rec = { state := .ready, pending := none, fn := fn, tmps := ac.tmps, params := #[p1, p2], assign := assign, body := body, defers := D } := ⟨_, rfl⟩
  rw [← hrec] at he
  obtain ⟨A, hA, hsub, hrest⟩ := he
  subst hA
  have hh0 : HeapIn g1.F w1 (hp 0 ++ [(l0, HO.raw (fun o => o = .loop rec))]) := (hR.drop hsub).heap
  have hYl : ∀ k, k < N → YieldG P g1.F w1 l0 (hp k ++ [(l0, HO.raw (fun o => o = .loop rec))]) (xs k) (goesY (hp (k + 1) ++ [(l0, HO.raw (fun o => o = .loop rec))])) := fun k hk => by
    obtain ⟨a1, a2, hx, hr⟩ := hround k hk
    rw [hx, hrec]
    exact yieldG_of hv0 hr (tmps := ac.tmps) hne (by rw [hR.size]; exact hp1) (by rw [hR.size]; exact hp2) (by rw [hR.size]; exact hk1) (by rw [hR.size]; exact hk2) hr1 hr2 hvs
  have hcall := hIt.2 (fun k => hp k ++ [(l0, HO.raw (fun o => o = .loop rec))]) l0 g1.F w1 vs us k0 hYl hR.fresh hh0 h1 h2 h3 h4
  refine CallsIn.mono (show CallsIn (FW rd) k0 P n _ w1 _ from hcall) fun en w' hp' => ?_
  obtain ⟨v, r, n', hout, g', rfl, hpo, _, hR'⟩ := call_back hR (fun x hx => hsub.subset hx) hrest hrn hp'
  subst hpo
  have hi : (rest ++ (hp N ++ [(l0, HO.raw (fun o => o = .loop rec))]))[(rest ++ hp N).length]? = some (l0, HO.raw (fun o => o = .loop rec)) := by
    rw [← List.append_assoc]; simp
  obtain ⟨o, ho1, ho2⟩ := hR'.heap.ok _ (List.mem_of_getElem? hi)
  simp only at ho1
  rw [ho2] at ho1
  have hend := run_endLoop (P := P) ho1 (by rw [hrec]; simp)
  have hend2 : (Instr.endLoop l0).run P w' = .ok none (w'.putObj l0 (.loop { rec with state := .exhausted })) := by rw [hend, show rec.pending = none by rw [hrec]]
  refine ⟨none, _, hend2, ?_⟩
  have hR2 := hR'.setRaw hi (isLp_eq _).raw (.loop { rec with state := .exhausted }) (q := fun _ => True) trivial
  have hR3 := hR2.drop (hp := rest ++ hp N) (by
    show (rest ++ hp N).Sublist ((rest ++ (hp N ++ [(l0, HO.raw (fun o => o = .loop rec))])).set (rest ++ hp N).length (l0, HO.raw fun _ => True))
    rw [← List.append_assoc, set_last]
    exact List.sublist_append_left _ _)
  refine hQ g' _ ?_
  exact hR3

/-- A loop over an iterator in a round of another. -/
theorem WsemB.range {lo : Nat} {g : Operand} {p1 p2 : Nat} {assign body : Code} {vs : List (Nat × SV)} {ow : List (Nat × Nat × Nat)} {al : List Nat} {hp : Nat → List (Nat × HO)} {ql : Obj → Prop} (hlo : (lo, HO.raw ql) ∈ hp 0) (hql : isLp ql) {vs0 : List (Nat × SV)} (hv0 : allV vs0 = true) (hle : leV (den ⟨vs, ow, al, hp 0⟩) vs0)
    (hne : p1 ≠ p2) {n : Nat} {fl fm : List AV} (hg : opd (den ⟨vs, ow, al, hp 0⟩) g = .v (.fn (.func n) fl fm)) {N : Nat} {xs : Nat → List AV} (hIt : IterG P n fl fm N xs) (hround : ∀ k, k < N → ∃ a1 a2, xs k = [a1, a2] ∧ RoundOk P p1 p2 assign body vs0 (hp k) (hp (k + 1)) a1 a2)
    {nn : CE → Prop} {x : Nat → CE → Prop} {r : CE → Prop} (hn : nn ⟨vs, ow, al, hp N⟩) : WsemB B (some lo) P (.rangeFunc g #[p1, p2] assign body) ⟨vs, ow, al, hp 0⟩ nn x r := by
  intro cx hB hyk hk hkr gg a w hR m
  simp only [codeOkH, Bool.and_eq_true, List.all_cons, List.all_nil] at hk
  simp only [codeOkR, Bool.and_eq_true] at hkr
  obtain ⟨⟨hp1, hp2, _⟩, hk1, hk2⟩ := hk
  have hp1 : p1 < cx.n := Nat.le_of_ble_eq_true hp1
  have hp2 : p2 < cx.n := Nat.le_of_ble_eq_true hp2
  obtain ⟨o0, ho1, ho2⟩ := hR.heap.ok _ hlo
  obtain ⟨r0, rfl⟩ := hql o0 ho2
  simp only at ho1
  refine wpIn_rangeFunc fun fn hfn => ?_
  obtain ⟨rec, hrec⟩ : ∃ rec : Loop, rec = { state := .ready, pending := none, fn := fn, tmps := a.tmps, params := #[p1, p2], assign := assign, body := body, defers := r0.defers } := ⟨_, rfl⟩
  obtain ⟨g1, hg1, hR1⟩ := hR.newRaw (.loop rec) (p := fun o => o = .loop rec) rfl
  have hag := Agree.refl (rdOpd g) (den ⟨vs, ow, al, hp 0⟩)
  obtain ⟨vs1, us1, hv1, hv2, hv3, hv4, hv5⟩ := Rep.fn_eq (opd_rep hag hR (Sub.refl _) hg)
  have hkp : Keeps gg.F w g1.F (w.alloc (.loop rec)) := (Grow.alloc w (.loop rec)).keeps hg1
  have hsl : ∀ s b, lookS vs0 s = .v b → Rep g1.F (w.alloc (.loop rec)) (a.tmps.getD s undef) b := fun s b hb => by
    exact hR1.vals (e0 := den ⟨vs, ow, al, hp 0⟩) rfl hle hb
  have hgv : a.eval g = .func (.func n) vs1 us1 := hv1
  have e1 : (vs1 ++ #[yv w.heap.size]) ++ us1 = (vs1.toList ++ ([yv w.heap.size] ++ us1.toList)).toArray := by
    apply Array.ext'; simp
  obtain ⟨fe, hf1, hf2, hf3⟩ := hIt.1
  have hf4 : fe.body.isNone = false := by cases hb : fe.body <;> simp [hb] at hf2 ⊢
  refine ⟨w.heap.size, [], w.alloc (.loop rec), { target := .fn (.func n) us1, args := vs1 ++ #[yv w.heap.size] }, w.alloc (.loop rec), n, (vs1 ++ #[yv w.heap.size]) ++ us1, w.alloc (.loop rec), ?_, ?_, fun _ _ => trivial, ?_, fun h => by simp [FW, Fence.wide] at h, ?_⟩
  · rw [hrec]; exact run_enterLoop_inner ho1 _ _ _ _ _
  · simp only [resolve, rangeCall, hgv, Deferred.ofValue]
    simp [Act.eval]
  · have hp : (program).run P (w.alloc (.loop rec)) = .ok P (w.alloc (.loop rec)) := rfl
    simp only [invoke, callFunc, Sem.run_bind, hp, Result.andThen_ok, hf1, hf3, hf4, Bool.false_eq_true, if_false, Sem.run_pure]
  · rw [e1]
    have hlt : ∀ b ∈ keys (hp 0), b < w.heap.size := fun b hb => by
      obtain ⟨x, hx, rfl⟩ := List.mem_map.1 hb
      exact (hR.heap.ok x hx).lt
    exact range_core hyk hv0 (fun s b hb => hsl s b hb) hne hp1 hp2 hk1 hk2 hkr.1 hkr.2 hIt hround (rest := []) ⟨_, rfl, by rw [← hrec]; exact List.Sublist.refl _, fun x hx => by simp at hx⟩ List.nodup_nil hR1 (vs := vs1.toList) (us := us1.toList) (by simp [hv2]) (fun i v b hv hb => (hv4 i v b (by simpa using hv) hb).mono hkp) (by simp [hv3]) (fun i v b hv hb => (hv5 i v b (by simpa using hv) hb).mono hkp) (m - 1) m (Q := CPost cx nn x r) (a' := { a with defers := [] ++ a.defers }) rfl
      (fun g' w' hR' => ⟨⟨vs, ow, al, hp N⟩, g', hn, hR'⟩)

/-! ### functions that hold such a loop -/

theorem Rel.setDs {cx : Ctx} {g : G} {e : Env} {a : Act} {w : World} (h : Rel cx g e a w) (d : List Deferred) : Rel { cx with ds := d } g e { a with defers := d } w :=
  { size := h.size, defers := rfl, kept := h.kept, fext := h.fext, old := h.old, hkO := h.hkO, hkin := h.hkin, fresh := h.fresh, freshO := h.freshO, slots := h.slots, own := h.own, heap := h.heap, heapO := h.heapO, al := h.al }

/-- The marks among the calls that are put off: each one's block is told. -/
def Marks (ds : List Deferred) (h : List (Nat × HO)) : Prop := ∃ Ds : List Nat, ds = Ds.map markD ∧ Ds.Nodup ∧ ∀ D ∈ Ds, (D, HO.raw rawD) ∈ h
theorem Marks.nil (h : List (Nat × HO)) : Marks [] h := ⟨[], rfl, List.nodup_nil, fun D h => by simp at h⟩
/-- Blocks of marks are told on. -/
def MK (h h' : List (Nat × HO)) : Prop := ∀ D, (D, HO.raw rawD) ∈ h → (D, HO.raw rawD) ∈ h'
theorem Marks.keep {ds : List Deferred} {h h' : List (Nat × HO)} (hm : Marks ds h) (hk : MK h h') : Marks ds h' := by
  obtain ⟨Ds, h1, h2, h3⟩ := hm
  exact ⟨Ds, h1, h2, fun D hD => hk D (h3 D hD)⟩

def CPostM (cx : Ctx) (n : CE → Prop) (x : Nat → CE → Prop) (r : CE → Prop) : Exit → Act → World → Prop
  | .normal, a, w => ∃ c g ds, n c ∧ Marks ds c.hp ∧ Rel { cx with ds := ds } g (den c) a w
  | .exit i, a, w => ∃ c g ds, x i c ∧ Marks ds c.hp ∧ Rel { cx with ds := ds } g (den c) a w
  | .ret, a, w => ∃ c g ds, r c ∧ Marks ds c.hp ∧ Rel { cx with ds := ds } g (den c) a w
  | _, _, _ => False

def WsemM (P : Program) (q : Code) (c : CE) (n : CE → Prop) (x : Nat → CE → Prop) (r : CE → Prop) : Prop :=
  ∀ cx : Ctx, cx.hk = [] → cx.yk = [] → codeOkH cx.n q = true → codeOkR q = true → Marks cx.ds c.hp → ∀ g a w, Rel cx g (den c) a w → ∀ m, q.wpIn (FW none) m P (CPostM cx n x r) a w

/-- A piece without such a loop. -/
theorem WsemM.of {q : Code} {c : CE} {n : CE → Prop} {x : Nat → CE → Prop} {r : CE → Prop} (h : WsemB (fun cx => cx.hk = []) none P q c (fun c' => MK c.hp c'.hp ∧ n c') (fun i c' => MK c.hp c'.hp ∧ x i c') (fun c' => MK c.hp c'.hp ∧ r c')) : WsemM P q c n x r := by
  intro cx hhk hyk hk hkr hM g a w hR m
  refine Go.wpIn_mono (h cx hhk hyk hk hkr g a w hR m) fun ex a w hp => ?_
  cases ex with
  | normal => obtain ⟨c', g', ⟨h1, h2⟩, h3⟩ := hp; exact ⟨c', g', cx.ds, h2, hM.keep h1, h3⟩
  | exit i => obtain ⟨c', g', ⟨h1, h2⟩, h3⟩ := hp; exact ⟨c', g', cx.ds, h2, hM.keep h1, h3⟩
  | ret => obtain ⟨c', g', ⟨h1, h2⟩, h3⟩ := hp; exact ⟨c', g', cx.ds, h2, hM.keep h1, h3⟩
  | _ => exact hp
theorem WsemM.seqS {p q : Code} {c : CE} {n : CE → Prop} {x : Nat → CE → Prop} {r : CE → Prop} (h : WsemM P p c (fun c => WsemM P q c n x r) x r) : WsemM P (.seq p q) c n x r := by
  intro cx hhk hyk hk hkr hM g a w hR m
  simp only [codeOkH, Bool.and_eq_true] at hk
  simp only [codeOkR, Bool.and_eq_true] at hkr
  refine wpIn_seq (Go.wpIn_mono (h cx hhk hyk hk.1 hkr.1 hM g a w hR m) fun ex a w hp => ?_)
  cases ex with
  | normal => obtain ⟨c', g', ds, h1, h2, h3⟩ := hp; exact h1 { cx with ds := ds } hhk hyk hk.2 hkr.2 h2 g' a w h3 m
  | _ => exact hp
theorem WsemM.block {i : Nat} {q : Code} {c : CE} {n : CE → Prop} {x : Nat → CE → Prop} {r : CE → Prop} (h : WsemM P q c n (fun j c => match Nat.beq j i with | true => n c | false => x j c) r) : WsemM P (.block i q) c n x r := by
  intro cx hhk hyk hk hkr hM g a w hR m
  refine wpIn_block (Go.wpIn_mono (h cx hhk hyk hk hkr hM g a w hR m) fun ex a w hp => ?_)
  cases ex with
  | normal => exact hp
  | exit j =>
    obtain ⟨c', g', ds, h1, h2, h3⟩ := hp
    simp only [Exit.inBlock]
    by_cases hj : j = i
    · rw [if_pos hj]; subst hj; rw [Nat.beq_refl] at h1; exact ⟨c', g', ds, h1, h2, h3⟩
    · rw [if_neg hj]; rw [Nat.beq_ne hj] at h1; exact ⟨c', g', ds, h1, h2, h3⟩
  | _ => exact hp
theorem WsemM.cut (fr : Fr) {q : Code} {c : CE} {n : CE → Prop} {x : Nat → CE → Prop} {r : CE → Prop} (hle : le (den c) fr) (h : WsemM P q (mkC fr) n x r) : WsemM P q c n x r := by
  intro cx hhk hyk hk hkr hM g a w hR m
  obtain ⟨g', hR'⟩ := hR.le hle
  have hh : c.hp = (mkC fr).hp := hle.2.2
  exact h cx hhk hyk hk hkr (by rw [← hh]; exact hM) g' a w (by rw [den_mkC]; exact hR') m

/-- A loop over an iterator. -/
theorem WsemM.range {g : Operand} {p1 p2 : Nat} {assign body : Code} {vs : List (Nat × SV)} {ow : List (Nat × Nat × Nat)} {al : List Nat} {hp : Nat → List (Nat × HO)} {vs0 : List (Nat × SV)} (hv0 : allV vs0 = true) (hle : leV (den ⟨vs, ow, al, hp 0⟩) vs0)
    (hne : p1 ≠ p2) {n : Nat} {fl fm : List AV} (hg : opd (den ⟨vs, ow, al, hp 0⟩) g = .v (.fn (.func n) fl fm)) {N : Nat} {xs : Nat → List AV} (hIt : IterG P n fl fm N xs) (hround : ∀ k, k < N → ∃ a1 a2, xs k = [a1, a2] ∧ RoundOk P p1 p2 assign body vs0 (hp k) (hp (k + 1)) a1 a2)
    (hMK : MK (hp 0) (hp N)) {nn : CE → Prop} {x : Nat → CE → Prop} {r : CE → Prop} (hn : ∀ D, nn ⟨vs, ow, al, (D, HO.raw rawD) :: hp N⟩) : WsemM P (.rangeFunc g #[p1, p2] assign body) ⟨vs, ow, al, hp 0⟩ nn x r := by
  intro cx hhk hyk hk hkr hM gg a w hR m
  simp only [codeOkH, Bool.and_eq_true, List.all_cons, List.all_nil] at hk
  simp only [codeOkR, Bool.and_eq_true] at hkr
  obtain ⟨⟨hp1, hp2, _⟩, hk1, hk2⟩ := hk
  have hp1 : p1 < cx.n := Nat.le_of_ble_eq_true hp1
  have hp2 : p2 < cx.n := Nat.le_of_ble_eq_true hp2
  refine wpIn_rangeFunc fun fn hfn => ?_
  obtain ⟨rec, hrec⟩ : ∃ rec : Loop, rec = { state := .ready, pending := none, fn := fn, tmps := a.tmps, params := #[p1, p2], assign := assign, body := body, defers := w.heap.size } := ⟨_, rfl⟩
  obtain ⟨g0, hg0, hR0⟩ := hR.newRaw (.deferred (some [])) (p := rawD) rfl
  obtain ⟨g1, hg1, hR1⟩ := hR0.newRaw (.loop rec) (p := fun o => o = .loop rec) rfl
  have hsz : (w.alloc (.deferred (some []))).heap.size = w.heap.size + 1 := by simp
  rw [hsz] at hR1 hg1
  obtain ⟨w1, hw1⟩ : ∃ w1, w1 = (w.alloc (.deferred (some []))).alloc (.loop rec) := ⟨_, rfl⟩
  rw [← hw1] at hR1
  have hag := Agree.refl (rdOpd g) (den ⟨vs, ow, al, hp 0⟩)
  obtain ⟨vs1, us1, hv1, hv2, hv3, hv4, hv5⟩ := Rep.fn_eq (opd_rep hag hR (Sub.refl _) hg)
  have hkp : Keeps gg.F w g1.F w1 := by
    rw [hw1]
    exact ((Grow.alloc w _).keeps hg0).trans ((Grow.alloc _ (.loop rec)).keeps (by rw [hsz]; exact hg1))
  have hgv : a.eval g = .func (.func n) vs1 us1 := hv1
  have e1 : (vs1 ++ #[yv (w.heap.size + 1)]) ++ us1 = (vs1.toList ++ ([yv (w.heap.size + 1)] ++ us1.toList)).toArray := by
    apply Array.ext'; simp
  obtain ⟨fe, hf1, hf2, hf3⟩ := hIt.1
  have hf4 : fe.body.isNone = false := by cases hb : fe.body <;> simp [hb] at hf2 ⊢
  refine ⟨w.heap.size + 1, [markD w.heap.size], w1, { target := .fn (.func n) us1, args := vs1 ++ #[yv (w.heap.size + 1)] }, w1, n, (vs1 ++ #[yv (w.heap.size + 1)]) ++ us1, w1, ?_, ?_, fun _ _ => trivial, ?_, fun h => by simp [FW, Fence.wide] at h, ?_⟩
  · rw [hw1, hrec]; exact run_enterLoop_outer _ _ _ _ _
  · simp only [resolve, rangeCall, hgv, Deferred.ofValue]
    simp [Act.eval]
  · have hp : (program).run P w1 = .ok P w1 := rfl
    simp only [invoke, callFunc, Sem.run_bind, hp, Result.andThen_ok, hf1, hf3, hf4, Bool.false_eq_true, if_false, Sem.run_pure]
  · rw [e1]
    have hlt : ∀ b ∈ keys (hp 0), b < w.heap.size := fun b hb => by
      obtain ⟨x, hx, rfl⟩ := List.mem_map.1 hb
      exact (hR.heap.ok x hx).lt
    refine range_core hyk hv0 (fun s b hb => hR1.vals (e0 := den ⟨vs, ow, al, hp 0⟩) rfl hle hb) hne hp1 hp2 hk1 hk2 hkr.1 hkr.2 hIt hround (rest := [(w.heap.size, HO.raw rawD)])
      ⟨_, rfl, by rw [← hrec]; exact (List.sublist_append_left _ _).append (List.Sublist.refl _), fun x hx => ?_⟩ (by simp [keys]) hR1 (vs := vs1.toList) (us := us1.toList) (by simp [hv2]) (fun i v b hv hb => (hv4 i v b (by simpa using hv) hb).mono hkp) (by simp [hv3]) (fun i v b hv hb => (hv5 i v b (by simpa using hv) hb).mono hkp) (m - 1) m (Q := CPostM cx nn x r)
      (a' := { a with defers := [markD w.heap.size] ++ a.defers }) rfl (fun g' w' hR' => ?_)
    · simp only [List.mem_singleton] at hx
      subst hx
      refine ⟨by simp, fun hk => ?_⟩
      simp only [keys, List.map_append, List.mem_append, List.map_cons, List.map_nil, List.mem_singleton] at hk
      rcases hk with hk | hk
      · have := hlt _ hk; omega
      · omega
    · obtain ⟨Ds, hD1, hD2, hD3⟩ := hM
      have hds : [markD w.heap.size] ++ a.defers = (w.heap.size :: Ds).map markD := by rw [hR.defers, hD1]; rfl
      refine ⟨⟨vs, ow, al, (w.heap.size, HO.raw rawD) :: hp N⟩, g', [markD w.heap.size] ++ a.defers, hn _, ⟨w.heap.size :: Ds, hds, List.nodup_cons.2 ⟨fun hm => ?_, hD2⟩, fun D hD => ?_⟩, ?_⟩
      · have := hlt _ (List.mem_map.2 ⟨_, hD3 _ hm, rfl⟩); simp at this
      · rcases List.mem_cons.1 hD with rfl | hD
        · exact List.mem_cons_self
        · exact List.mem_cons_of_mem _ (hMK D (hD3 D hD))
      · exact hR'.setDs _

end
end Fp

