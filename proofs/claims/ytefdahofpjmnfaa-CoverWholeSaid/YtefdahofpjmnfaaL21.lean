/- Of Go's library: Repeat, for few. No condition. -/
import Derived.Test.YtefdahofpjmnfaaL20
set_option linter.unusedSimpArgs false
set_option linter.unusedVariables false
namespace Go.Proofs.Ytefdahofpjmnfaa
open Go Fp
set_option maxRecDepth 10000
set_option maxHeartbeats 4000000

theorem mul64_ok (n : Nat) (hn : n ≤ 2) : ACall Try.prog n_math_bits_Mul64 [.lit (.int .u64 1), .lit (.int .u64 (n : Nat))] (.tup [.lit (.int .u64 0), .lit (.int .u64 (n : Nat))]) := by
  match n, hn with
  | 0, _ | 1, _ | 2, _ =>
    refine acall_of_wcx ttok mixed Try.func80 rfl (by rfl) (Nat.le_of_ble_eq_true rfl) (by kernel_rfl) ?_
    refine ⟨_, fun w => rfl, rfl, ?_⟩
    refine ⟨_, fun w => rfl, rfl, ?_⟩
    refine ⟨_, fun w => rfl, rfl, ?_⟩
    refine ⟨_, fun w => rfl, rfl, ?_⟩
    refine ⟨_, fun w => rfl, rfl, ?_⟩
    refine ⟨_, fun w => rfl, rfl, ?_⟩
    refine ⟨_, fun w => rfl, rfl, ?_⟩
    refine ⟨_, fun w => rfl, rfl, ?_⟩
    exact rfl
theorem mul_ok (n : Nat) (hn : n ≤ 2) : ACall Try.prog n_math_bits_Mul [.lit (.int .u64 1), .lit (.int .u64 (n : Nat))] (.tup [.lit (.int .u64 0), .lit (.int .u64 (n : Nat))]) := by
  refine acall_of_wcx ttok mixed Try.func78 rfl (by rfl) (Nat.le_of_ble_eq_true rfl) (by kernel_rfl) ?_
  exact .inl ⟨_, mul64_ok n hn, rfl⟩

def repPost (n : Nat) (x : AV) (r : AV) (o : Nat) (h : List (Nat × HO)) : Prop :=
  o = 0 ∧ ∃ b, r = .lit (.slice (some ⟨b, 0, none⟩) n n) ∧ h = [(b, HO.cells ((List.replicate n x).flatMap AV.cells))]
theorem flat_rep {x : AV} {n : Nat} : Uni x.cells.length (List.replicate n x) := fun a ha => by rw [(List.mem_replicate.1 ha).2]
theorem repPost_frz {n : Nat} {x : AV} (hx : ∀ c ∈ x.cells, c.isCell = true) (h0 : 0 < x.cells.length) {r : AV} {o : Nat} {h : List (Nat × HO)} (hp : repPost n x r o h) : Frz h r (.sl (List.replicate n x)) ∧ o = 0 := by
  obtain ⟨rfl, b, rfl, rfl⟩ := hp
  refine ⟨.sl b 0 n n x.cells.length _ _ (List.mem_singleton.2 rfl) (by simp) (Nat.le_refl _) flat_rep (fun y hy c hc => ?_) (by rw [flatMap_len flat_rep]; simp) (fun i y j c c' hy hj hc => ?_), rfl⟩
  · rw [(List.mem_replicate.1 hy).2] at hc; exact hx c hc
  · have hyx := (List.mem_replicate.1 (List.mem_of_getElem? hy)).2
    subst hyx
    rw [Nat.zero_add] at hc
    obtain ⟨z, z1, z2⟩ := flatMap_at h0 flat_rep hc
    have hj' : j < y.cells.length := (List.getElem?_eq_some_iff.1 hj).1
    have e2 : (i * y.cells.length + j) % y.cells.length = j := by rw [Nat.mul_comm, Nat.mul_add_mod, Nat.mod_eq_of_lt hj']
    have hz := (List.mem_replicate.1 (List.mem_of_getElem? z1)).2
    subst hz
    rw [e2, hj] at z2
    injection z2 with z2
    rw [z2]
    exact .refl _

theorem setAt_all {l cs : List AV} (h : l.length = cs.length) : setAt l 0 cs = cs := by
  unfold setAt; rw [Nat.zero_add, List.drop_of_length_le (by omega)]; simp
theorem setAt_front {l m cs : List AV} (h : l.length = cs.length) : setAt (l ++ m) 0 cs = cs ++ m := by
  unfold setAt; rw [Nat.zero_add, ← h, List.drop_left]; simp
theorem setAt_back {l m cs : List AV} (h : m.length = cs.length) : setAt (l ++ m) l.length cs = l ++ cs := by
  unfold setAt; rw [List.take_left, List.drop_of_length_le (by rw [List.length_append]; omega)]; simp
abbrev z10 : List AV := [.lit (.int .i64 0), .lit (.int .i64 0), .lit (.int .i64 0), .lit (.string .empty), .sl [], .lit (.int .i64 0), .lit (.int .i64 0), .lit (.string .empty), .sl [], .sl []]
theorem repeat_ok (x : AV) (n : Nat) (hn : n ≤ 2) (hx : x.cells.length = 10) (hc : ∀ c ∈ x.cells, c.isCell = true) : ACall Try.prog n_slices_Repeat_apiPatapiPat [.sl [x], .lit (.int .i64 (n : Nat))] (.sl (List.replicate n x)) := by
  have hm := mul_ok n hn
  have ux : Uni 10 [x] := uni1 hx
  refine CallsG.pure (callsG_of_wcx (first := []) (cap := []) ttok mixed Try.func74 rfl (by rfl) rfl (Nat.le_of_ble_eq_true rfl) (by kernel_rfl) (post := repPost n x) ?_) (fun r o h hp => repPost_frz hc (by omega) hp)
  match n, hn with
  | 0, _ =>
    refine ⟨fun h => absurd h (by decide), fun _ => ?_⟩
    refine .inl ⟨_, hm, ?_⟩
    refine ⟨fun _ => ?_, fun h => absurd h (by decide)⟩
    refine ⟨fun h => absurd h (by decide), fun _ => ?_⟩
    refine ⟨rfl, by decide, by decide, by decide, fun b => ?_⟩
    refine .inl ⟨rfl, ?_⟩
    refine ⟨Unit, fun _ => { vs := [(7, .v (.lit (.slice (some ⟨b, 0, none⟩) 0 0))), (8, sv 0)], hp := [(b, HO.cells [])] }, fun _ => 0, (), ⟨⟨rfl, rfl, trivial⟩, trivial, rfl⟩, ?_⟩
    rintro ⟨⟩
    refine ⟨fun h => absurd h (by decide), fun _ => ?_⟩
    exact ⟨rfl, b, rfl, rfl⟩
  | 1, _ =>
    refine ⟨fun h => absurd h (by decide), fun _ => ?_⟩
    refine .inl ⟨_, hm, ?_⟩
    refine ⟨fun _ => ?_, fun h => absurd h (by decide)⟩
    refine ⟨fun h => absurd h (by decide), fun _ => ?_⟩
    refine ⟨rfl, by decide, by decide, by decide, fun b => ?_⟩
    refine .inr ⟨0, _, rfl, Nat.le_of_ble_eq_true rfl, ux, Nat.le_of_ble_eq_true rfl, ?_⟩
    refine ⟨Unit, fun _ => { vs := [(7, .v (.lit (.slice (some ⟨b, 0, none⟩) 1 1))), (8, sv 1)], hp := [(b, HO.cells x.cells)] }, fun _ => 0, (), ⟨⟨rfl, rfl, trivial⟩, trivial, ?_⟩, ?_⟩
    · show [(b, HO.cells (setAt _ 0 (x.cells ++ [])))] = [(b, HO.cells x.cells)]
      rw [List.append_nil, setAt_all]
      rw [hx]; rfl
    rintro ⟨⟩
    refine ⟨fun h => absurd h (by decide), fun _ => ?_⟩
    refine ⟨rfl, b, rfl, ?_⟩
    show [(b, HO.cells x.cells)] = _
    simp
  | 2, _ =>
    refine ⟨fun h => absurd h (by decide), fun _ => ?_⟩
    refine .inl ⟨_, hm, ?_⟩
    refine ⟨fun _ => ?_, fun h => absurd h (by decide)⟩
    refine ⟨fun h => absurd h (by decide), fun _ => ?_⟩
    refine ⟨rfl, by decide, by decide, by decide, fun b => ?_⟩
    refine .inr ⟨0, _, rfl, Nat.le_of_ble_eq_true rfl, ux, Nat.le_of_ble_eq_true rfl, ?_⟩
    refine ⟨{k : Nat // k ≤ 1}, fun k => { vs := [(7, .v (.lit (.slice (some ⟨b, 0, none⟩) 2 2))), (8, sv ((k.1 + 1 : Nat) : Int))], hp := [(b, HO.cells (if k.1 = 0 then x.cells ++ z10 else x.cells ++ x.cells))] }, fun k => 1 - k.1, ⟨0, by decide⟩, ⟨⟨rfl, rfl, trivial⟩, trivial, ?_⟩, ?_⟩
    · show [(b, HO.cells (setAt (z10 ++ (z10 ++ [])) 0 (x.cells ++ [])))] = [(b, HO.cells (x.cells ++ z10))]
      rw [List.append_nil, List.append_nil, setAt_front]
      rw [hx]; rfl
    rintro ⟨k, hk⟩
    match k, hk with
    | 0, _ =>
      refine ⟨fun _ => ?_, fun h => absurd h (by simp)⟩
      refine ⟨by simp, by simp, by simp, ?_⟩
      refine ⟨by simp, by simp, by simp, ?_⟩
      refine ⟨0, 0, _, _, rfl, rfl, ?_, ?_, ?_⟩
      · show 10 + 1 * 10 ≤ (x.cells ++ z10).length
        rw [List.length_append, hx]; decide
      · show 0 + 1 * 10 ≤ (x.cells ++ z10).length
        rw [List.length_append, hx]; decide
      refine ⟨by decide, ⟨1, by decide⟩, by simp, ⟨rfl, rfl, trivial⟩, trivial, ?_⟩
      show [(b, HO.cells (setAt (x.cells ++ z10) 10 (((x.cells ++ z10).drop 0).take (1 * 10))))] = [(b, HO.cells (x.cells ++ x.cells))]
      rw [List.drop_zero, show 1 * 10 = x.cells.length by rw [hx], List.take_left, ← hx, setAt_back]
      rw [hx]; rfl
    | 1, _ =>
      refine ⟨fun h => absurd h (by simp), fun _ => ?_⟩
      refine ⟨rfl, b, rfl, ?_⟩
      show [(b, HO.cells (x.cells ++ x.cells))] = _
      simp [List.replicate]
end Go.Proofs.Ytefdahofpjmnfaa
