/- The program's constructors: made, and looked up. No condition. -/
import Derived.Test.YtefdahofpjmnfaaL21
set_option linter.unusedSimpArgs false
set_option linter.unusedVariables false
namespace Go.Proofs.Ytefdahofpjmnfaa
open Go Fp
set_option maxRecDepth 10000
set_option maxHeartbeats 16000000

abbrev sb : ByteArray := ⟨#[98]⟩
abbrev sArr : ByteArray := ⟨#[45, 62]⟩
def wTab5 : List DT := [(sArr, 0, [sa, sb], [.agg [.sl []], .agg [.sl []]], []), (sInt, 0, [], [], []), (sBool, 0, [], [], wsBool), (sL, 1, [sa], [.agg [.sl []]], wsL), (sT, 2, [], [], wsT)]
theorem star_ok : ACall Try.prog n_kinds_Star [] (.agg [.sl []]) := by
  refine acall_of_wc ttok mixed Try.func49 rfl (by rfl) (Nat.le_of_ble_eq_true rfl) (by kernel_rfl) ?_
  exact rfl
theorem prelude_ok : ACall Try.prog n_kindof_Prelude [] (.sl ((wTab5.take 3).map eD)) := by
  refine acall_of_wc ttok mixed Try.func26 rfl (by rfl) (Nat.le_of_ble_eq_true rfl) (by kernel_rfl) ?_
  exact .inl ⟨_, star_ok, rfl⟩

/-- Where constructors stand. -/
def atT : List (ByteArray × Nat × Nat) := [(sFalse, 2, 0), (sTrue, 2, 1), (sN, 3, 0), (sC, 3, 1), (sA, 4, 0), (sB, 4, 1), (sD, 4, 2)]
def eAt (q : ByteArray × Nat × Nat) : AV × AV := (.lit (.string q.1), .agg [.lit (.int .i64 (q.2.1 : Nat)), .lit (.int .i64 (q.2.2 : Nat))])
def cnt : Nat → Nat | 0 => 0 | 1 => 0 | 2 => 0 | 3 => 2 | 4 => 4 | _ => 7
abbrev conN (d : Nat) (h : d < 5) : Nat := (wTab5[d]'h).2.2.2.2.length
theorem at_at : ∀ (d : Nat) (h : d < 5) (k : Nat) (hk : k < conN d h), atT[cnt d + k]? = some ((wTab5[d]'h).2.2.2.2[k].1, d, k)
  | 0, _, k, hk | 1, _, k, hk => by simp [conN, wTab5] at hk
  | 2, _, 0, _ | 2, _, 1, _ | 3, _, 0, _ | 3, _, 1, _ | 4, _, 0, _ | 4, _, 1, _ | 4, _, 2, _ => rfl
  | 2, _, k + 2, hk | 3, _, k + 2, hk => by simp [conN, wTab5] at hk; omega
  | 4, _, k + 3, hk => by simp [conN, wTab5] at hk; omega
  | d + 5, h, _, _ => by omega
theorem cnt_next : ∀ (d : Nat) (h : d < 5), cnt d + conN d h = cnt (d + 1)
  | 0, _ | 1, _ | 2, _ | 3, _ | 4, _ => rfl
  | d + 5, h => by omega
theorem conN_le : ∀ (d : Nat) (h : d < 5), conN d h ≤ 3
  | 0, _ | 1, _ | 2, _ | 3, _ | 4, _ => Nat.le_of_ble_eq_true rfl
  | d + 5, h => by omega
theorem atT_nodup : (atT.map (·.1)).Nodup := by decide
theorem take_snoc {α : Type} : ∀ {l : List α} {i : Nat} {x : α}, l[i]? = some x → l.take (i + 1) = l.take i ++ [x] := fun {l i x} h => by
  have hl := (List.getElem?_eq_some_iff.1 h).1
  rw [List.take_succ_eq_append_getElem hl]
  rw [List.getElem?_eq_getElem hl] at h; injection h with h; rw [h]
theorem not_in_take {α β : Type} {f : α → β} : ∀ {l : List α} {i : Nat} {x : α}, (l.map f).Nodup → l[i]? = some x → ∀ y ∈ l.take i, f y ≠ f x
  | a :: l, 0, x, _, _, y, hy => by simp at hy
  | a :: l, i + 1, x, hn, hx, y, hy => by
    simp only [List.map_cons, List.nodup_cons] at hn
    rw [List.take_succ_cons] at hy
    have hx' : l[i]? = some x := by simpa using hx
    rcases List.mem_cons.1 hy with rfl | hy
    · intro e; exact hn.1 (by rw [e]; exact List.mem_map_of_mem (List.mem_of_getElem? hx'))
    · exact not_in_take hn.2 hx' y hy
  | [], i, x, _, hx, _, _ => by simp at hx

/-- The constructors, as a value. -/
def cAV : AV := .ptr [.sl (wTab5.map eD), .mpv (atT.map eAt)]
theorem uniD (l : List DT) : Uni 5 (l.map eD) := uniMap (f := eD) (n := 5) (fun _ => rfl) l

def newPost (r : AV) (o : Nat) (h : List (Nat × HO)) : Prop := o = 0 ∧ ∃ b, r = .ptr [.sl (wTab5.map eD), .lit (.map (some b))] ∧ h = [(b, HO.mp (atT.map eAt))]

theorem new_ok : ACall Try.prog n_pats_New [aProg] cAV := by
  refine CallsG.pure (callsG_of_wcx (first := []) (cap := []) ttok mixed Try.func9 rfl (by rfl) rfl (Nat.le_of_ble_eq_true rfl) (by kernel_rfl) (post := newPost) ?_) (fun r o h hp => ?_)
  · have hcc := concat25_ok [(wTab5.take 3).map eD, [dL, dT]] (by decide) (fun l hl => by
      simp at hl
      rcases hl with rfl | rfl
      · rw [← List.map_take]; exact uniD _
      · exact uniD [(sL, 1, [sa], [.agg [.sl []]], wsL), (sT, 2, [], [], wsT)]) (by decide)
    have hcc : ACall Try.prog 25 [.sl [.sl ((wTab5.take 3).map eD), .sl [dL, dT]]] (.sl (wTab5.map eD)) := hcc
    refine .inl ⟨_, prelude_ok, ?_⟩
    refine .inl ⟨_, hcc, ?_⟩
    intro b
    refine ⟨by decide, ?_⟩
    have hD : (wTab5.map eD).length = 5 := rfl
    refine ⟨{d : Nat // d ≤ 5}, fun d => { vs := [(3, .v (.ptr [.sl (wTab5.map eD), .lit (.map (some b))])), (19, sv 5), (20, sv (d.1 : Nat))], hp := [(b, HO.mp ((atT.take (cnt d.1)).map eAt))] }, fun d => 5 - d.1, ⟨0, by decide⟩, ⟨⟨rfl, rfl, rfl, trivial⟩, trivial, rfl⟩, ?_⟩
    rintro ⟨d, hd⟩
    refine ⟨fun h => ?_, fun h => ?_⟩
    · have h : d < 5 := by have h := of_decide_eq_true h; simp only at h; omega
      have hg : (wTab5.map eD)[d]? = some (eD wTab5[d]) := getM h
      have hcn := conN_le d h
      refine ⟨_, by omega, hg, rfl, ?_⟩
      refine ⟨{k : Nat // k ≤ conN d h}, fun k => { vs := [(3, .v (.ptr [.sl (wTab5.map eD), .lit (.map (some b))])), (4, sv (d : Nat)), (19, sv 5), (20, sv (d : Nat)), (30, .v (.sl (eCons wTab5[d].2.2.2.2))), (31, sv (conN d h : Nat)), (32, sv (k.1 : Nat))], hp := [(b, HO.mp ((atT.take (cnt d + k.1)).map eAt))] }, fun k => conN d h - k.1, ⟨0, Nat.zero_le _⟩,
        ⟨⟨rfl, rfl, rfl, rfl, rfl, svc (by rw [lenC]), rfl, trivial⟩, trivial, rfl⟩, ?_⟩
      rintro ⟨k, hk⟩
      refine ⟨fun h1 => ?_, fun h1 => ?_⟩
      · have h1 : k < conN d h := by have h1 := of_decide_eq_true h1; simp only at h1; omega
        have hat := at_at d h k h1
        have hgk : (eCons wTab5[d].2.2.2.2)[k]? = some (eCon wTab5[d].2.2.2.2[k]) := getM h1
        have hni := not_in_take atT_nodup hat
        generalize wTab5[d].2.2.2.2[k] = q at *
        refine ⟨_, by omega, hgk, rfl, ?_⟩
        refine ⟨0, _, none, rfl, fun p hp => ?_, trivial, .no fun p hp => ?_, ?_⟩
        · obtain ⟨y, _, rfl⟩ := List.mem_map.1 hp; trivial
        · obtain ⟨y, hy, rfl⟩ := List.mem_map.1 hp
          intro e
          have e : AV.lit (.string y.1) = .lit (.string q.1) := e
          injection e with e; injection e with e
          exact hni y hy e
        refine ⟨by decide, ⟨k + 1, h1⟩, by simp; omega, ⟨rfl, rfl, rfl, rfl, rfl, rfl, svc (wrap_succ (k := k) (by omega)), trivial⟩, trivial, ?_⟩
        show [(b, HO.mp ((atT.take (cnt d + k)).map eAt ++ [eAt (q.1, d, k)]))] = [(b, HO.mp ((atT.take (cnt d + (k + 1))).map eAt))]
        rw [← Nat.add_assoc, take_snoc hat, List.map_append]; rfl
      · have h1 : k = conN d h := by have h1 := of_decide_eq_false h1; simp only at h1; omega
        subst h1
        refine ⟨⟨d + 1, h⟩, by simp; omega, ⟨rfl, rfl, svc (wrap_succ (k := d) (by omega)), trivial⟩, trivial, ?_⟩
        show [(b, HO.mp ((atT.take (cnt d + conN d h)).map eAt))] = [(b, HO.mp ((atT.take (cnt (d + 1))).map eAt))]
        rw [cnt_next]
    · have h : d = 5 := by have h := of_decide_eq_false h; simp only at h; omega
      subst h
      exact ⟨rfl, b, rfl, rfl⟩
  · obtain ⟨rfl, b, rfl, rfl⟩ := hp
    refine ⟨.ptrs _ _ (Nat.le_refl _) (fun c hc => ?_) (fun j c c' hc hc' => ?_), rfl⟩
    · simp at hc; rcases hc with rfl | rfl <;> rfl
    · match j with
      | 0 => simp at hc hc'; subst hc; subst hc'; exact .refl _
      | 1 =>
        simp at hc hc'; subst hc; subst hc'
        exact .mp b _ _ (List.mem_singleton.2 rfl) rfl (fun j c c' h h' => by rw [h] at h'; injection h' with h'; subst h'; exact .refl _) (fun j c c' h h' => by rw [h] at h'; injection h' with h'; subst h'; exact .refl _)
      | j + 2 => simp at hc
end Go.Proofs.Ytefdahofpjmnfaa
