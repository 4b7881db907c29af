/- Of Go's library: Grow, Concat. No condition. -/
import Derived.Test.YtefdahofpjmnfaaDoorC
set_option linter.unusedSimpArgs false
set_option linter.unusedVariables false
namespace Go.Proofs.YtefdahofpjmnfaaDoor
open Go Fp
set_option maxRecDepth 10000
set_option maxHeartbeats 4000000

def growPost (esz : Nat) (r : AV) (o : Nat) (h : List (Nat × HO)) : Prop :=
  (r = .sl [] ∧ o = esz + 1 ∧ h = []) ∨ (o = 0 ∧ ∃ b cap zs, r = .lit (.slice (some ⟨b, 0, none⟩) 0 cap) ∧ h = [(b, HO.cells zs)] ∧ cap * esz ≤ zs.length)
theorem flat_take {α : Type} {ls : List (List α)} {k : Nat} (h : k < ls.length) : (ls.take (k + 1)).flatten = (ls.take k).flatten ++ ls[k] := by
  rw [List.take_succ_eq_append_getElem h, List.flatten_append]; simp
theorem flat_le {α : Type} : ∀ (ls : List (List α)) (k : Nat), (ls.take k).flatten.length ≤ ls.flatten.length
  | [], k => by simp
  | l :: ls, 0 => by simp
  | l :: ls, k + 1 => by have := flat_le ls k; simp only [List.take_succ_cons, List.flatten_cons, List.length_append]; omega
theorem flat_uni {n : Nat} {ls : List (List AV)} (hu : ∀ l ∈ ls, Uni n l) (k : Nat) : Uni n (ls.take k).flatten := fun a ha => by
  obtain ⟨l, hl, h⟩ := List.mem_flatten.1 ha
  exact hu l (List.mem_of_mem_take hl) a h

theorem grow48_ok (n : Nat) (hn : n ≤ 100000) : CallsG Tryd.prog (fnv 72) [] [.nil, .lit (.int .i64 (n : Nat))] [] fun r o h => r = .sl [] ∧ o = 6 ∧ h = [] := by
  have w0 : IntKind.i64.wrap ((n : Int) - IntKind.i64.wrap (0 - (([] : List AV).length : Nat))) = (n : Int) := by
    rw [show IntKind.i64.wrap (0 - (([] : List AV).length : Nat)) = 0 from rfl, Int.sub_zero]; exact wrap_nat (by omega)
  refine CallsG.opened (esz := 5) (callsG_of_wcxN (os := [6]) ttok mixed Tryd.func72 rfl (by rfl) (fun i sz h => ?_) (Nat.le_of_ble_eq_true rfl) (by kernel_rfl) (post := growPost 5) ?_) (fun r o h hp => hp)
  · match i with
    | 0 => rfl
    | i + 1 => simp at h
  refine ⟨fun h => ?_, fun _ => ?_⟩
  · have h := of_decide_eq_true h; omega
  refine ⟨fun h => ?_, fun h => ?_⟩
  · have h := of_decide_eq_true h
    rw [w0] at h
    refine .inl ⟨rfl, rfl, ?_⟩
    refine ⟨n, w0, by omega, by omega, fun b cap zs h1 h2 => ?_⟩
    refine ⟨by decide, by decide, by exact_mod_cast Nat.zero_le _, ?_⟩
    refine .inr ⟨rfl, b, cap, zs, ?_, rfl, by omega⟩
    have e : ∀ A B : Option Addr, A = some ⟨b, 0, none⟩ → B = some ⟨b, 0, none⟩ → AV.lit (.slice (if cap = 0 then A else B) 0 cap) = .lit (.slice (some ⟨b, 0, none⟩) 0 cap) := fun A B hA hB => by rw [hA, hB]; split <;> rfl
    exact e _ _ rfl rfl
  · exact .inl ⟨rfl, rfl, rfl⟩

theorem concat25_ok (ls : List (List AV)) (hn : ls.length < 10000) (hu : ∀ l ∈ ls, Uni 5 l) (ht : ls.flatten.length ≤ 100000) : ACall Tryd.prog 41 [.sl (ls.map AV.sl)] (.sl ls.flatten) := by
  refine acall_of_wcx ttok mixed Tryd.func41 rfl (by rfl) (Nat.le_of_ble_eq_true rfl) (by kernel_rfl) ?_
  have hml : (ls.map AV.sl).length = ls.length := by simp
  refine ⟨{k : Nat // k ≤ ls.length}, fun k => { vs := [(0, .v (.sl (ls.map AV.sl))), (3, sv ((ls.take k.1).flatten.length : Nat)), (9, .v (.sl (ls.map AV.sl))), (10, sv (ls.length : Nat)), (11, sv (k.1 : Nat))] },
    fun k => ls.length - k.1, ⟨0, Nat.zero_le _⟩, ⟨⟨rfl, rfl, rfl, svc (by rw [hml]), rfl, trivial⟩, trivial, rfl⟩, ?_⟩
  rintro ⟨k, hk⟩
  refine ⟨fun h => ?_, fun h => ?_⟩
  · have h : k < ls.length := by have h := of_decide_eq_true h; simp only at h; omega
    have hfl := flat_take h
    have hle := flat_le ls (k + 1)
    refine ⟨.sl ls[k], by omega, getM (f := AV.sl) h, rfl, ?_⟩
    have w1 : IntKind.i64.wrap (((ls.take k).flatten.length : Nat) + (ls[k].length : Nat)) = ((ls.take (k + 1)).flatten.length : Nat) := by
      rw [hfl, List.length_append, ← Int.natCast_add]; exact wrap_nat (by rw [hfl, List.length_append] at hle; omega)
    refine ⟨fun h2 => ?_, fun _ => ?_⟩
    · have h2 := of_decide_eq_true h2
      simp only [w1] at h2; omega
    exact ⟨⟨k + 1, h⟩, by simp; omega, ⟨rfl, svc w1, rfl, rfl, svc (wrap_succ (k := k) (by omega)), trivial⟩, trivial, rfl⟩
  · have h : k = ls.length := by have h := of_decide_eq_false h; simp only at h; omega
    subst h
    have hg := grow48_ok ls.flatten.length ht
    rw [show ls.flatten.length = (ls.take ls.length).flatten.length by rw [List.take_length]] at hg
    refine .inr (.inr (.inr (.inr (.inr (.inl ⟨[], [], [], _, rfl, List.nodup_nil, rfl, hg, ?_⟩)))))
    rintro r w hout ⟨rfl, rfl, rfl⟩
    refine ⟨{k : Nat // k ≤ ls.length}, fun k => { vs := [(6, .v (.sl (ls.take k.1).flatten)), (25, .v (.sl (ls.map AV.sl))), (26, sv (ls.length : Nat)), (27, sv (k.1 : Nat))], ow := [(6, 0, 6)] },
      fun k => ls.length - k.1, ⟨0, Nat.zero_le _⟩, ⟨⟨rfl, rfl, svc (by rw [hml]), rfl, trivial⟩, ⟨rfl, trivial⟩, rfl⟩, ?_⟩
    rintro ⟨k, hk⟩
    refine ⟨fun h => ?_, fun h => ?_⟩
    · have h : k < ls.length := by have h := of_decide_eq_true h; simp only at h; omega
      have hfl := flat_take h
      have hle := flat_le ls (k + 1)
      refine ⟨.sl ls[k], by omega, getM (f := AV.sl) h, rfl, ?_⟩
      refine ⟨by rw [hfl, List.length_append] at hle; simp only; omega, flat_uni hu k, hu _ (List.getElem_mem h), ?_⟩
      refine ⟨⟨k + 1, h⟩, by simp; omega, ⟨?_, rfl, rfl, svc (wrap_succ (k := k) (by omega)), trivial⟩, ⟨rfl, trivial⟩, rfl⟩
      show _ = SV.v (AV.sl (ls.take (k + 1)).flatten)
      rw [hfl]; rfl
    · have h : k = ls.length := by have h := of_decide_eq_false h; simp only at h; omega
      subst h
      show AV.sl (ls.take ls.length).flatten = _
      rw [List.take_length]


theorem grow75_ok (n : Nat) (hn : n ≤ 100000) : CallsG Tryd.prog (fnv 95) [] [.nil, .lit (.int .i64 (n : Nat))] [] fun r o h => r = .sl [] ∧ o = 11 ∧ h = [] := by
  have w0 : IntKind.i64.wrap ((n : Int) - IntKind.i64.wrap (0 - (([] : List AV).length : Nat))) = (n : Int) := by
    rw [show IntKind.i64.wrap (0 - (([] : List AV).length : Nat)) = 0 from rfl, Int.sub_zero]; exact wrap_nat (by omega)
  refine CallsG.opened (esz := 10) (callsG_of_wcxN (os := [11]) ttok mixed Tryd.func95 rfl (by rfl) (fun i sz h => ?_) (Nat.le_of_ble_eq_true rfl) (by kernel_rfl) (post := growPost 10) ?_) (fun r o h hp => hp)
  · match i with
    | 0 => rfl
    | i + 1 => simp at h
  refine ⟨fun h => ?_, fun _ => ?_⟩
  · have h := of_decide_eq_true h; omega
  refine ⟨fun h => ?_, fun h => ?_⟩
  · have h := of_decide_eq_true h
    rw [w0] at h
    refine .inl ⟨rfl, rfl, ?_⟩
    refine ⟨n, w0, by omega, by omega, fun b cap zs h1 h2 => ?_⟩
    refine ⟨by decide, by decide, by exact_mod_cast Nat.zero_le _, ?_⟩
    refine .inr ⟨rfl, b, cap, zs, ?_, rfl, by omega⟩
    have e : ∀ A B : Option Addr, A = some ⟨b, 0, none⟩ → B = some ⟨b, 0, none⟩ → AV.lit (.slice (if cap = 0 then A else B) 0 cap) = .lit (.slice (some ⟨b, 0, none⟩) 0 cap) := fun A B hA hB => by rw [hA, hB]; split <;> rfl
    exact e _ _ rfl rfl
  · exact .inl ⟨rfl, rfl, rfl⟩

theorem concat65_ok (ls : List (List AV)) (hn : ls.length < 10000) (hu : ∀ l ∈ ls, Uni 10 l) (ht : ls.flatten.length ≤ 100000) : ACall Tryd.prog 68 [.sl (ls.map AV.sl)] (.sl ls.flatten) := by
  refine acall_of_wcx ttok mixed Tryd.func68 rfl (by rfl) (Nat.le_of_ble_eq_true rfl) (by kernel_rfl) ?_
  have hml : (ls.map AV.sl).length = ls.length := by simp
  refine ⟨{k : Nat // k ≤ ls.length}, fun k => { vs := [(0, .v (.sl (ls.map AV.sl))), (3, sv ((ls.take k.1).flatten.length : Nat)), (9, .v (.sl (ls.map AV.sl))), (10, sv (ls.length : Nat)), (11, sv (k.1 : Nat))] },
    fun k => ls.length - k.1, ⟨0, Nat.zero_le _⟩, ⟨⟨rfl, rfl, rfl, svc (by rw [hml]), rfl, trivial⟩, trivial, rfl⟩, ?_⟩
  rintro ⟨k, hk⟩
  refine ⟨fun h => ?_, fun h => ?_⟩
  · have h : k < ls.length := by have h := of_decide_eq_true h; simp only at h; omega
    have hfl := flat_take h
    have hle := flat_le ls (k + 1)
    refine ⟨.sl ls[k], by omega, getM (f := AV.sl) h, rfl, ?_⟩
    have w1 : IntKind.i64.wrap (((ls.take k).flatten.length : Nat) + (ls[k].length : Nat)) = ((ls.take (k + 1)).flatten.length : Nat) := by
      rw [hfl, List.length_append, ← Int.natCast_add]; exact wrap_nat (by rw [hfl, List.length_append] at hle; omega)
    refine ⟨fun h2 => ?_, fun _ => ?_⟩
    · have h2 := of_decide_eq_true h2
      simp only [w1] at h2; omega
    exact ⟨⟨k + 1, h⟩, by simp; omega, ⟨rfl, svc w1, rfl, rfl, svc (wrap_succ (k := k) (by omega)), trivial⟩, trivial, rfl⟩
  · have h : k = ls.length := by have h := of_decide_eq_false h; simp only at h; omega
    subst h
    have hg := grow75_ok ls.flatten.length ht
    rw [show ls.flatten.length = (ls.take ls.length).flatten.length by rw [List.take_length]] at hg
    refine .inr (.inr (.inr (.inr (.inr (.inl ⟨[], [], [], _, rfl, List.nodup_nil, rfl, hg, ?_⟩)))))
    rintro r w hout ⟨rfl, rfl, rfl⟩
    refine ⟨{k : Nat // k ≤ ls.length}, fun k => { vs := [(6, .v (.sl (ls.take k.1).flatten)), (25, .v (.sl (ls.map AV.sl))), (26, sv (ls.length : Nat)), (27, sv (k.1 : Nat))], ow := [(6, 0, 11)] },
      fun k => ls.length - k.1, ⟨0, Nat.zero_le _⟩, ⟨⟨rfl, rfl, svc (by rw [hml]), rfl, trivial⟩, ⟨rfl, trivial⟩, rfl⟩, ?_⟩
    rintro ⟨k, hk⟩
    refine ⟨fun h => ?_, fun h => ?_⟩
    · have h : k < ls.length := by have h := of_decide_eq_true h; simp only at h; omega
      have hfl := flat_take h
      have hle := flat_le ls (k + 1)
      refine ⟨.sl ls[k], by omega, getM (f := AV.sl) h, rfl, ?_⟩
      refine ⟨by rw [hfl, List.length_append] at hle; simp only; omega, flat_uni hu k, hu _ (List.getElem_mem h), ?_⟩
      refine ⟨⟨k + 1, h⟩, by simp; omega, ⟨?_, rfl, rfl, svc (wrap_succ (k := k) (by omega)), trivial⟩, ⟨rfl, trivial⟩, rfl⟩
      show _ = SV.v (AV.sl (ls.take (k + 1)).flatten)
      rw [hfl]; rfl
    · have h : k = ls.length := by have h := of_decide_eq_false h; simp only at h; omega
      subst h
      show AV.sl (ls.take ls.length).flatten = _
      rw [List.take_length]

end Go.Proofs.YtefdahofpjmnfaaDoor

namespace Go.Proofs.YtefdahofpjmnfaaDoor
open Go Fp
set_option maxRecDepth 10000
set_option maxHeartbeats 4000000

theorem mul64_ok (n : Nat) (hn : n ≤ 2) : ACall Tryd.prog n_math_bits_Mul64 [.lit (.int .u64 1), .lit (.int .u64 (n : Nat))] (.tup [.lit (.int .u64 0), .lit (.int .u64 (n : Nat))]) := by
  match n, hn with
  | 0, _ | 1, _ | 2, _ =>
    refine acall_of_wcx ttok mixed Tryd.func113 rfl (by rfl) (Nat.le_of_ble_eq_true rfl) (by kernel_rfl) ?_
    refine ⟨_, fun w => rfl, rfl, ?_⟩
    refine ⟨_, fun w => rfl, rfl, ?_⟩
    refine ⟨_, fun w => rfl, rfl, ?_⟩
    refine ⟨_, fun w => rfl, rfl, ?_⟩
    refine ⟨_, fun w => rfl, rfl, ?_⟩
    refine ⟨_, fun w => rfl, rfl, ?_⟩
    refine ⟨_, fun w => rfl, rfl, ?_⟩
    refine ⟨_, fun w => rfl, rfl, ?_⟩
    exact rfl
theorem mul_ok (n : Nat) (hn : n ≤ 2) : ACall Tryd.prog n_math_bits_Mul [.lit (.int .u64 1), .lit (.int .u64 (n : Nat))] (.tup [.lit (.int .u64 0), .lit (.int .u64 (n : Nat))]) := by
  refine acall_of_wcx ttok mixed Tryd.func106 rfl (by rfl) (Nat.le_of_ble_eq_true rfl) (by kernel_rfl) ?_
  exact .inl ⟨_, mul64_ok n hn, rfl⟩

def repPost (n : Nat) (x : AV) (r : AV) (o : Nat) (h : List (Nat × HO)) : Prop :=
  o = 0 ∧ ∃ b, r = .lit (.slice (some ⟨b, 0, none⟩) n n) ∧ h = [(b, HO.cells ((List.replicate n x).flatMap AV.cells))]
theorem flat_rep {x : AV} {n : Nat} : Uni x.cells.length (List.replicate n x) := fun a ha => by rw [(List.mem_replicate.1 ha).2]
theorem repPost_frz {n : Nat} {x : AV} (hx : ∀ c ∈ x.cells, c.isCell = true) (h0 : 0 < x.cells.length) {r : AV} {o : Nat} {h : List (Nat × HO)} (hp : repPost n x r o h) : Frz h r (.sl (List.replicate n x)) ∧ o = 0 := by
  obtain ⟨rfl, b, rfl, rfl⟩ := hp
  refine ⟨.sl b 0 n n x.cells.length _ _ (List.mem_singleton.2 rfl) (by simp) (Nat.le_refl _) flat_rep (fun y hy c hc => ?_) (by rw [flatMap_len flat_rep]; simp) (fun i y j c c' hy hj hc => ?_), rfl⟩
  · rw [(List.mem_replicate.1 hy).2] at hc; exact hx c hc
  · have hyx := (List.mem_replicate.1 (List.mem_of_getElem? hy)).2
    subst hyx
    rw [Nat.zero_add] at hc
    obtain ⟨z, z1, z2⟩ := flatMap_at h0 flat_rep hc
    have hj' : j < y.cells.length := (List.getElem?_eq_some_iff.1 hj).1
    have e2 : (i * y.cells.length + j) % y.cells.length = j := by rw [Nat.mul_comm, Nat.mul_add_mod, Nat.mod_eq_of_lt hj']
    have hz := (List.mem_replicate.1 (List.mem_of_getElem? z1)).2
    subst hz
    rw [e2, hj] at z2
    injection z2 with z2
    rw [z2]
    exact .refl _

theorem setAt_all {l cs : List AV} (h : l.length = cs.length) : setAt l 0 cs = cs := by
  unfold setAt; rw [Nat.zero_add, List.drop_of_length_le (by omega)]; simp
theorem setAt_front {l m cs : List AV} (h : l.length = cs.length) : setAt (l ++ m) 0 cs = cs ++ m := by
  unfold setAt; rw [Nat.zero_add, ← h, List.drop_left]; simp
theorem setAt_back {l m cs : List AV} (h : m.length = cs.length) : setAt (l ++ m) l.length cs = l ++ cs := by
  unfold setAt; rw [List.take_left, List.drop_of_length_le (by rw [List.length_append]; omega)]; simp
abbrev z10 : List AV := [.lit (.int .i64 0), .lit (.int .i64 0), .lit (.int .i64 0), .lit (.string .empty), .sl [], .lit (.int .i64 0), .lit (.int .i64 0), .lit (.string .empty), .sl [], .sl []]
theorem repeat_ok (x : AV) (n : Nat) (hn : n ≤ 2) (hx : x.cells.length = 10) (hc : ∀ c ∈ x.cells, c.isCell = true) : ACall Tryd.prog n_slices_Repeat_apiPatapiPat [.sl [x], .lit (.int .i64 (n : Nat))] (.sl (List.replicate n x)) := by
  have hm := mul_ok n hn
  have ux : Uni 10 [x] := uni1 hx
  refine CallsG.pure (callsG_of_wcx (first := []) (cap := []) ttok mixed Tryd.func94 rfl (by rfl) rfl (Nat.le_of_ble_eq_true rfl) (by kernel_rfl) (post := repPost n x) ?_) (fun r o h hp => repPost_frz hc (by omega) hp)
  match n, hn with
  | 0, _ =>
    refine ⟨fun h => absurd h (by decide), fun _ => ?_⟩
    refine .inl ⟨_, hm, ?_⟩
    refine ⟨fun _ => ?_, fun h => absurd h (by decide)⟩
    refine ⟨fun h => absurd h (by decide), fun _ => ?_⟩
    refine ⟨rfl, by decide, by decide, by decide, fun b => ?_⟩
    refine .inl ⟨rfl, ?_⟩
    refine ⟨Unit, fun _ => { vs := [(7, .v (.lit (.slice (some ⟨b, 0, none⟩) 0 0))), (8, sv 0)], hp := [(b, HO.cells [])] }, fun _ => 0, (), ⟨⟨rfl, rfl, trivial⟩, trivial, rfl⟩, ?_⟩
    rintro ⟨⟩
    refine ⟨fun h => absurd h (by decide), fun _ => ?_⟩
    exact ⟨rfl, b, rfl, rfl⟩
  | 1, _ =>
    refine ⟨fun h => absurd h (by decide), fun _ => ?_⟩
    refine .inl ⟨_, hm, ?_⟩
    refine ⟨fun _ => ?_, fun h => absurd h (by decide)⟩
    refine ⟨fun h => absurd h (by decide), fun _ => ?_⟩
    refine ⟨rfl, by decide, by decide, by decide, fun b => ?_⟩
    refine .inr ⟨0, _, rfl, Nat.le_of_ble_eq_true rfl, ux, Nat.le_of_ble_eq_true rfl, ?_⟩
    refine ⟨Unit, fun _ => { vs := [(7, .v (.lit (.slice (some ⟨b, 0, none⟩) 1 1))), (8, sv 1)], hp := [(b, HO.cells x.cells)] }, fun _ => 0, (), ⟨⟨rfl, rfl, trivial⟩, trivial, ?_⟩, ?_⟩
    · show [(b, HO.cells (setAt _ 0 (x.cells ++ [])))] = [(b, HO.cells x.cells)]
      rw [List.append_nil, setAt_all]
      rw [hx]; rfl
    rintro ⟨⟩
    refine ⟨fun h => absurd h (by decide), fun _ => ?_⟩
    refine ⟨rfl, b, rfl, ?_⟩
    show [(b, HO.cells x.cells)] = _
    simp
  | 2, _ =>
    refine ⟨fun h => absurd h (by decide), fun _ => ?_⟩
    refine .inl ⟨_, hm, ?_⟩
    refine ⟨fun _ => ?_, fun h => absurd h (by decide)⟩
    refine ⟨fun h => absurd h (by decide), fun _ => ?_⟩
    refine ⟨rfl, by decide, by decide, by decide, fun b => ?_⟩
    refine .inr ⟨0, _, rfl, Nat.le_of_ble_eq_true rfl, ux, Nat.le_of_ble_eq_true rfl, ?_⟩
    refine ⟨{k : Nat // k ≤ 1}, fun k => { vs := [(7, .v (.lit (.slice (some ⟨b, 0, none⟩) 2 2))), (8, sv ((k.1 + 1 : Nat) : Int))], hp := [(b, HO.cells (if k.1 = 0 then x.cells ++ z10 else x.cells ++ x.cells))] }, fun k => 1 - k.1, ⟨0, by decide⟩, ⟨⟨rfl, rfl, trivial⟩, trivial, ?_⟩, ?_⟩
    · show [(b, HO.cells (setAt (z10 ++ (z10 ++ [])) 0 (x.cells ++ [])))] = [(b, HO.cells (x.cells ++ z10))]
      rw [List.append_nil, List.append_nil, setAt_front]
      rw [hx]; rfl
    rintro ⟨k, hk⟩
    match k, hk with
    | 0, _ =>
      refine ⟨fun _ => ?_, fun h => absurd h (by simp)⟩
      refine ⟨by simp, by simp, by simp, ?_⟩
      refine ⟨by simp, by simp, by simp, ?_⟩
      refine ⟨0, 0, _, _, rfl, rfl, ?_, ?_, ?_⟩
      · show 10 + 1 * 10 ≤ (x.cells ++ z10).length
        rw [List.length_append, hx]; decide
      · show 0 + 1 * 10 ≤ (x.cells ++ z10).length
        rw [List.length_append, hx]; decide
      refine ⟨by decide, ⟨1, by decide⟩, by simp, ⟨rfl, rfl, trivial⟩, trivial, ?_⟩
      show [(b, HO.cells (setAt (x.cells ++ z10) 10 (((x.cells ++ z10).drop 0).take (1 * 10))))] = [(b, HO.cells (x.cells ++ x.cells))]
      rw [List.drop_zero, show 1 * 10 = x.cells.length by rw [hx], List.take_left, ← hx, setAt_back]
      rw [hx]; rfl
    | 1, _ =>
      refine ⟨fun h => absurd h (by simp), fun _ => ?_⟩
      refine ⟨rfl, b, rfl, ?_⟩
      show [(b, HO.cells (x.cells ++ x.cells))] = _
      simp [List.replicate]
end Go.Proofs.YtefdahofpjmnfaaDoor

namespace Go.Proofs.YtefdahofpjmnfaaDoor
open Go Fp
set_option maxRecDepth 10000
set_option maxHeartbeats 16000000

abbrev sb : ByteArray := ⟨#[98]⟩
abbrev sArr : ByteArray := ⟨#[45, 62]⟩
def wTab5 : List DT := [(sArr, 0, [sa, sb], [.agg [.sl []], .agg [.sl []]], []), (sInt, 0, [], [], []), (sBool, 0, [], [], wsBool), (sL, 1, [sa], [.agg [.sl []]], wsL), (sT, 2, [], [], wsT)]
theorem star_ok : ACall Tryd.prog n_kinds_Star [] (.agg [.sl []]) := by
  refine acall_of_wc ttok mixed Tryd.func73 rfl (by rfl) (Nat.le_of_ble_eq_true rfl) (by kernel_rfl) ?_
  exact rfl
theorem prelude_ok : ACall Tryd.prog n_kindof_Prelude [] (.sl ((wTab5.take 3).map eD)) := by
  refine acall_of_wc ttok mixed Tryd.func42 rfl (by rfl) (Nat.le_of_ble_eq_true rfl) (by kernel_rfl) ?_
  exact .inl ⟨_, star_ok, rfl⟩

/-- Where constructors stand. -/
def atT : List (ByteArray × Nat × Nat) := [(sFalse, 2, 0), (sTrue, 2, 1), (sN, 3, 0), (sC, 3, 1), (sA, 4, 0), (sB, 4, 1), (sD, 4, 2)]
def eAt (q : ByteArray × Nat × Nat) : AV × AV := (.lit (.string q.1), .agg [.lit (.int .i64 (q.2.1 : Nat)), .lit (.int .i64 (q.2.2 : Nat))])
def cnt : Nat → Nat | 0 => 0 | 1 => 0 | 2 => 0 | 3 => 2 | 4 => 4 | _ => 7
abbrev conN (d : Nat) (h : d < 5) : Nat := (wTab5[d]'h).2.2.2.2.length
theorem at_at : ∀ (d : Nat) (h : d < 5) (k : Nat) (hk : k < conN d h), atT[cnt d + k]? = some ((wTab5[d]'h).2.2.2.2[k].1, d, k)
  | 0, _, k, hk | 1, _, k, hk => by simp [conN, wTab5] at hk
  | 2, _, 0, _ | 2, _, 1, _ | 3, _, 0, _ | 3, _, 1, _ | 4, _, 0, _ | 4, _, 1, _ | 4, _, 2, _ => rfl
  | 2, _, k + 2, hk | 3, _, k + 2, hk => by simp [conN, wTab5] at hk; omega
  | 4, _, k + 3, hk => by simp [conN, wTab5] at hk; omega
  | d + 5, h, _, _ => by omega
theorem cnt_next : ∀ (d : Nat) (h : d < 5), cnt d + conN d h = cnt (d + 1)
  | 0, _ | 1, _ | 2, _ | 3, _ | 4, _ => rfl
  | d + 5, h => by omega
theorem conN_le : ∀ (d : Nat) (h : d < 5), conN d h ≤ 3
  | 0, _ | 1, _ | 2, _ | 3, _ | 4, _ => Nat.le_of_ble_eq_true rfl
  | d + 5, h => by omega
theorem atT_nodup : (atT.map (·.1)).Nodup := by decide
theorem take_snoc {α : Type} : ∀ {l : List α} {i : Nat} {x : α}, l[i]? = some x → l.take (i + 1) = l.take i ++ [x] := fun {l i x} h => by
  have hl := (List.getElem?_eq_some_iff.1 h).1
  rw [List.take_succ_eq_append_getElem hl]
  rw [List.getElem?_eq_getElem hl] at h; injection h with h; rw [h]
theorem not_in_take {α β : Type} {f : α → β} : ∀ {l : List α} {i : Nat} {x : α}, (l.map f).Nodup → l[i]? = some x → ∀ y ∈ l.take i, f y ≠ f x
  | a :: l, 0, x, _, _, y, hy => by simp at hy
  | a :: l, i + 1, x, hn, hx, y, hy => by
    simp only [List.map_cons, List.nodup_cons] at hn
    rw [List.take_succ_cons] at hy
    have hx' : l[i]? = some x := by simpa using hx
    rcases List.mem_cons.1 hy with rfl | hy
    · intro e; exact hn.1 (by rw [e]; exact List.mem_map_of_mem (List.mem_of_getElem? hx'))
    · exact not_in_take hn.2 hx' y hy
  | [], i, x, _, hx, _, _ => by simp at hx

/-- The constructors, as a value. -/
def cAV : AV := .ptr [.sl (wTab5.map eD), .mpv (atT.map eAt)]
theorem uniD (l : List DT) : Uni 5 (l.map eD) := uniMap (f := eD) (n := 5) (fun _ => rfl) l

def newPost (r : AV) (o : Nat) (h : List (Nat × HO)) : Prop := o = 0 ∧ ∃ b, r = .ptr [.sl (wTab5.map eD), .lit (.map (some b))] ∧ h = [(b, HO.mp (atT.map eAt))]

theorem new_ok : ACall Tryd.prog n_pats_New [aProg] cAV := by
  refine CallsG.pure (callsG_of_wcx (first := []) (cap := []) ttok mixed Tryd.func9 rfl (by rfl) rfl (Nat.le_of_ble_eq_true rfl) (by kernel_rfl) (post := newPost) ?_) (fun r o h hp => ?_)
  · have hcc := concat25_ok [(wTab5.take 3).map eD, [dL, dT]] (by decide) (fun l hl => by
      simp at hl
      rcases hl with rfl | rfl
      · rw [← List.map_take]; exact uniD _
      · exact uniD [(sL, 1, [sa], [.agg [.sl []]], wsL), (sT, 2, [], [], wsT)]) (by decide)
    have hcc : ACall Tryd.prog 41 [.sl [.sl ((wTab5.take 3).map eD), .sl [dL, dT]]] (.sl (wTab5.map eD)) := hcc
    refine .inl ⟨_, prelude_ok, ?_⟩
    refine .inl ⟨_, hcc, ?_⟩
    intro b
    refine ⟨by decide, ?_⟩
    have hD : (wTab5.map eD).length = 5 := rfl
    refine ⟨{d : Nat // d ≤ 5}, fun d => { vs := [(3, .v (.ptr [.sl (wTab5.map eD), .lit (.map (some b))])), (19, sv 5), (20, sv (d.1 : Nat))], hp := [(b, HO.mp ((atT.take (cnt d.1)).map eAt))] }, fun d => 5 - d.1, ⟨0, by decide⟩, ⟨⟨rfl, rfl, rfl, trivial⟩, trivial, rfl⟩, ?_⟩
    rintro ⟨d, hd⟩
    refine ⟨fun h => ?_, fun h => ?_⟩
    · have h : d < 5 := by have h := of_decide_eq_true h; simp only at h; omega
      have hg : (wTab5.map eD)[d]? = some (eD wTab5[d]) := getM h
      have hcn := conN_le d h
      refine ⟨_, by omega, hg, rfl, ?_⟩
      refine ⟨{k : Nat // k ≤ conN d h}, fun k => { vs := [(3, .v (.ptr [.sl (wTab5.map eD), .lit (.map (some b))])), (4, sv (d : Nat)), (19, sv 5), (20, sv (d : Nat)), (30, .v (.sl (eCons wTab5[d].2.2.2.2))), (31, sv (conN d h : Nat)), (32, sv (k.1 : Nat))], hp := [(b, HO.mp ((atT.take (cnt d + k.1)).map eAt))] }, fun k => conN d h - k.1, ⟨0, Nat.zero_le _⟩,
        ⟨⟨rfl, rfl, rfl, rfl, rfl, svc (by rw [lenC]), rfl, trivial⟩, trivial, rfl⟩, ?_⟩
      rintro ⟨k, hk⟩
      refine ⟨fun h1 => ?_, fun h1 => ?_⟩
      · have h1 : k < conN d h := by have h1 := of_decide_eq_true h1; simp only at h1; omega
        have hat := at_at d h k h1
        have hgk : (eCons wTab5[d].2.2.2.2)[k]? = some (eCon wTab5[d].2.2.2.2[k]) := getM h1
        have hni := not_in_take atT_nodup hat
        generalize wTab5[d].2.2.2.2[k] = q at *
        refine ⟨_, by omega, hgk, rfl, ?_⟩
        refine ⟨0, _, none, rfl, fun p hp => ?_, trivial, .no fun p hp => ?_, ?_⟩
        · obtain ⟨y, _, rfl⟩ := List.mem_map.1 hp; trivial
        · obtain ⟨y, hy, rfl⟩ := List.mem_map.1 hp
          intro e
          have e : AV.lit (.string y.1) = .lit (.string q.1) := e
          injection e with e; injection e with e
          exact hni y hy e
        refine ⟨by decide, ⟨k + 1, h1⟩, by simp; omega, ⟨rfl, rfl, rfl, rfl, rfl, rfl, svc (wrap_succ (k := k) (by omega)), trivial⟩, trivial, ?_⟩
        show [(b, HO.mp ((atT.take (cnt d + k)).map eAt ++ [eAt (q.1, d, k)]))] = [(b, HO.mp ((atT.take (cnt d + (k + 1))).map eAt))]
        rw [← Nat.add_assoc, take_snoc hat, List.map_append]; rfl
      · have h1 : k = conN d h := by have h1 := of_decide_eq_false h1; simp only at h1; omega
        subst h1
        refine ⟨⟨d + 1, h⟩, by simp; omega, ⟨rfl, rfl, svc (wrap_succ (k := d) (by omega)), trivial⟩, trivial, ?_⟩
        show [(b, HO.mp ((atT.take (cnt d + conN d h)).map eAt))] = [(b, HO.mp ((atT.take (cnt (d + 1))).map eAt))]
        rw [cnt_next]
    · have h : d = 5 := by have h := of_decide_eq_false h; simp only at h; omega
      subst h
      exact ⟨rfl, b, rfl, rfl⟩
  · obtain ⟨rfl, b, rfl, rfl⟩ := hp
    refine ⟨.ptrs _ _ (Nat.le_refl _) (fun c hc => ?_) (fun j c c' hc hc' => ?_), rfl⟩
    · simp at hc; rcases hc with rfl | rfl <;> rfl
    · match j with
      | 0 => simp at hc hc'; subst hc; subst hc'; exact .refl _
      | 1 =>
        simp at hc hc'; subst hc; subst hc'
        exact .mp b _ _ (List.mem_singleton.2 rfl) rfl (fun j c c' h h' => by rw [h] at h'; injection h' with h'; subst h'; exact .refl _) (fun j c c' h h' => by rw [h] at h'; injection h' with h'; subst h'; exact .refl _)
      | j + 2 => simp at hc
end Go.Proofs.YtefdahofpjmnfaaDoor

namespace Go.Proofs.YtefdahofpjmnfaaDoor
open Go Fp
set_option maxRecDepth 10000
set_option maxHeartbeats 16000000

theorem keys_at : ∀ p ∈ atT.map eAt, keyLike (.lit (.string .empty)) p.1 := fun p hp => by
  obtain ⟨y, _, rfl⟩ := List.mem_map.1 hp; trivial
theorem found_at {j : Nat} {q : ByteArray × Nat × Nat} (h : atT[j]? = some q) : Fp.Found (atT.map eAt) (.string q.1) (some (j, (eAt q).2)) := by
  refine .yes j _ ?_ (fun i hi p hp => ?_)
  · rw [List.getElem?_map, h]; rfl
  · rw [List.getElem?_map] at hp
    cases hy : atT[i]? with
    | none => rw [hy] at hp; simp at hp
    | some y =>
      rw [hy] at hp; simp at hp; subst hp
      have := not_in_take atT_nodup h y (by rw [List.mem_iff_getElem?]; exact ⟨i, by rw [List.getElem?_take, if_pos hi]; exact hy⟩)
      intro e
      have e : AV.lit (.string y.1) = .lit (.string q.1) := e
      injection e with e; injection e with e
      exact this e
theorem atT_lt {j : Nat} {q : ByteArray × Nat × Nat} (h : atT[j]? = some q) : q.2.1 < 5 := by
  have := List.mem_of_getElem? h
  revert this
  have : ∀ x ∈ atT, x.2.1 < 5 := by decide
  exact this q

theorem con_ok {j : Nat} {q : ByteArray × Nat × Nat} (h : atT[j]? = some q) :
    ACall Tryd.prog n_pats_Cons_Con [cAV, .lit (.string q.1)] (.tup [eD (wTab5[q.2.1]'(atT_lt h)), .lit (.int .i64 (q.2.2 : Nat)), .sb true]) := by
  have hg : (wTab5.map eD)[q.2.1]? = some (eD (wTab5[q.2.1]'(atT_lt h))) := getM (atT_lt h)
  refine acall_of_wcx ttok mixed Tryd.func63 rfl (by rfl) (Nat.le_of_ble_eq_true rfl) (by kernel_rfl) ?_
  refine ⟨some (j, (eAt q).2), keys_at, trivial, found_at h, ?_⟩
  refine ⟨_, by omega, hg, rfl, ?_⟩
  exact ⟨by decide, rfl⟩

theorem con_of {t : Nat} {s : ByteArray} {fs : List Nat} (h : (s, fs) ∈ wCons t) : ∃ (j : Nat) (q : ByteArray × Nat × Nat), atT[j]? = some q ∧ q.1 = s ∧ ∃ h5 : q.2.1 < 5, (wTab5[q.2.1]'h5).2.2.2.2 = consT t := by
  match t with
  | 0 => simp [wCons] at h
  | 1 => simp [wCons] at h; rcases h with ⟨rfl, rfl⟩ | ⟨rfl, rfl⟩ <;> first | exact ⟨0, _, rfl, rfl, by decide, rfl⟩ | exact ⟨1, _, rfl, rfl, by decide, rfl⟩
  | 2 => simp [wCons] at h; rcases h with ⟨rfl, rfl⟩ | ⟨rfl, rfl⟩ <;> first | exact ⟨2, _, rfl, rfl, by decide, rfl⟩ | exact ⟨3, _, rfl, rfl, by decide, rfl⟩
  | 3 => simp [wCons] at h; rcases h with ⟨rfl, rfl⟩ | ⟨rfl, rfl⟩ | ⟨rfl, rfl⟩ <;> first | exact ⟨4, _, rfl, rfl, by decide, rfl⟩ | exact ⟨5, _, rfl, rfl, by decide, rfl⟩ | exact ⟨6, _, rfl, rfl, by decide, rfl⟩
  | 4 => simp [wCons] at h; rcases h with ⟨rfl, rfl⟩ | ⟨rfl, rfl⟩ <;> first | exact ⟨2, _, rfl, rfl, by decide, rfl⟩ | exact ⟨3, _, rfl, rfl, by decide, rfl⟩
  | n + 5 => simp [wCons] at h

theorem getRw {F : Int} {b : Nat → Int} {l : List Rw} {k : Nat} (h : k < l.length) : (eRws F b l)[k]? = some (eRw F b l[k]) := getM h
theorem lenRw (F : Int) (b : Nat → Int) (l : List Rw) : (eRws F b l).length = l.length := by simp [eRws]

/-- Nothing, or the constructors. -/
def consN : Option (List (ByteArray × List Tp)) → AV
  | some cs => .sl (eCons cs)
  | none => .nil

theorem cons_ok (F : Int) (b : Nat → Int) (l : List Rw) (cs : List Nat) (a t : Nat) (ha : cs[a]? = some t) (hl : ∀ r ∈ l, TyPs cs r.ps) (hcs : cs.length < 10000) (hb : l.length < 10000) :
    ACall Tryd.prog n_cover_cons [cAV, .sl (eRws F b l), .lit (.int .i64 (a : Nat))] (consN (colCons a l)) := by
  refine acallR_of_wcx ttok mixed Tryd.func34 rfl (by rfl) (Nat.le_of_ble_eq_true rfl) (by kernel_rfl) ?_
  refine ⟨{k : Nat // k ≤ l.length ∧ ∀ j y, j < k → l[j]? = some y → rowCons a y = none}, fun k => { vs := [(0, .v cAV), (2, sv (a : Nat)), (12, .v (.sl (eRws F b l))), (13, sv (l.length : Nat)), (14, sv (k.1 : Nat))] },
    fun k => l.length - k.1, ⟨0, Nat.zero_le _, fun j y h => by omega⟩, ⟨⟨rfl, rfl, rfl, svc (by rw [lenRw]), rfl, trivial⟩, trivial, rfl⟩, ?_⟩
  rintro ⟨k, hk, hinv⟩
  refine ⟨fun h => ?_, fun h => ?_⟩
  · have h : k < l.length := by have h := of_decide_eq_true h; simp only at h; omega
    obtain ⟨p, hp, ht⟩ := (hl _ (List.getElem_mem h)).get ha
    have hap : a < l[k].ps.length := (List.getElem?_eq_some_iff.1 hp).1
    have hp' : (ePts l[k].ps)[a]? = some (ePt p) := by simp [ePts, hp]
    have hrow : rowCons a l[k] = if p.f = 4 then findCons p.s else none := by unfold rowCons; rw [hp]
    refine ⟨_, by omega, getRw h, rfl, ?_⟩
    refine ⟨_, by omega, hp', rfl, ?_⟩
    by_cases h4 : p.f = 4
    · obtain ⟨fs, hs, _⟩ := ty_con ht h4
      obtain ⟨j, q, hq, hqs, h5, hd⟩ := con_of hs
      have hc := con_ok hq
      rw [hqs] at hc
      refine ⟨fun hbs => ?_, fun hbs => ?_⟩ <;> first | (exfalso; revert hbs; (simp [h4]); done) | skip
      refine ⟨_, by omega, hp', rfl, ?_⟩
      refine .inl ⟨_, hc, ?_⟩
      refine ⟨?_, rfl⟩
      have e : colCons a l = some (consT t) := fs_at (List.getElem?_eq_getElem h) hinv (by rw [hrow, if_pos h4, findCons_eq hs])
      rw [e]
      show AV.sl (eCons (wTab5[q.2.1]'(atT_lt hq)).2.2.2.2) = .sl (eCons (consT t))
      rw [← hd]
    · refine ⟨fun hbs => ?_, fun hbs => ?_⟩ <;> first | (exfalso; revert hbs; (simp [h4]); done) | skip
      refine ⟨⟨k + 1, h, fun j y hj hy => ?_⟩, by simp; omega, ⟨rfl, rfl, rfl, rfl, svc (wrap_succ (k := k) (by omega)), trivial⟩, trivial, rfl⟩
      rcases Nat.lt_or_ge j k with hlt | hge
      · exact hinv j y hlt hy
      · have : j = k := by omega
        subst this
        rw [List.getElem?_eq_getElem h] at hy; injection hy with hy; subst hy
        rw [hrow, if_neg h4]
  · have h : k = l.length := by have h := of_decide_eq_false h; simp only at h; omega
    refine ⟨?_, rfl⟩
    have : colCons a l = none := fs_none (fun j y hj hy => hinv j y (by omega) hy)
    rw [this]
    exact rfl

theorem index_ok (l : List Int) (x : Int) (hl : l.length < 10000) : ∃ i : Int, ACall Tryd.prog n_slices_Index_intint [.sl (eIs l), .lit (.int .i64 x)] (.lit (.int .i64 i)) ∧ (0 ≤ i ↔ x ∈ l) := by
  have main : ∀ i : Int, ((∃ k : Nat, i = k ∧ l[k]? = some x ∧ ∀ j y, j < k → l[j]? = some y → y ≠ x) ∨ i = -1 ∧ x ∉ l) → ACall Tryd.prog n_slices_Index_intint [.sl (eIs l), .lit (.int .i64 x)] (.lit (.int .i64 i)) := fun i hi => by
    refine acall_of_wcx ttok mixed Tryd.func96 rfl (by rfl) (Nat.le_of_ble_eq_true rfl) (by kernel_rfl) ?_
    refine ⟨{k : Nat // k ≤ l.length ∧ ∀ j y, j < k → l[j]? = some y → y ≠ x}, fun k => { vs := [(0, .v (.sl (eIs l))), (1, sv x), (6, .v (.sl (eIs l))), (7, sv (l.length : Nat)), (8, sv (k.1 : Nat))] },
      fun k => l.length - k.1, ⟨0, Nat.zero_le _, fun j y h => by omega⟩, ⟨⟨rfl, rfl, rfl, svc (by rw [lenI]), rfl, trivial⟩, trivial, rfl⟩, ?_⟩
    rintro ⟨k, hk, hinv⟩
    refine ⟨fun h => ?_, fun h => ?_⟩
    · have h : k < l.length := by have h := of_decide_eq_true h; simp only at h; omega
      refine ⟨_, by omega, getI h, rfl, ?_⟩
      refine ⟨fun h2 => ?_, fun h2 => ?_⟩
      · have h2 := of_decide_eq_true h2
        have hi' : i = k := by
          rcases hi with ⟨k', rfl, h3, h4⟩ | ⟨_, h3⟩
          · rcases Nat.lt_trichotomy k k' with q | q | q
            · exact absurd h2.symm (h4 k _ q (List.getElem?_eq_getElem h))
            · rw [q]
            · exact absurd rfl (hinv k' x q h3)
          · exact absurd (by rw [h2]; exact List.getElem_mem h) h3
        rw [hi']
        exact rfl
      · have h2 := of_decide_eq_false h2
        refine ⟨⟨k + 1, h, fun j y hj hy => ?_⟩, by simp; omega, ⟨rfl, rfl, rfl, rfl, svc (wrap_succ (k := k) (by omega)), trivial⟩, trivial, rfl⟩
        rcases Nat.lt_or_ge j k with hlt | hge
        · exact hinv j y hlt hy
        · have : j = k := by omega
          subst this
          rw [List.getElem?_eq_getElem h] at hy; injection hy with hy; subst hy
          exact fun e => h2 e.symm
    · have h : k = l.length := by have h := of_decide_eq_false h; simp only at h; omega
      have hi' : i = -1 := by
        rcases hi with ⟨k', rfl, h3, h4⟩ | ⟨h3, _⟩
        · exact absurd rfl (hinv k' x (by have := (List.getElem?_eq_some_iff.1 h3).1; omega) h3)
        · exact h3
      rw [hi']
      exact rfl
  by_cases hx : x ∈ l
  · have : ∃ k : Nat, l[k]? = some x ∧ ∀ j y, j < k → l[j]? = some y → y ≠ x := by
      clear main
      induction l with
      | nil => simp at hx
      | cons z l ih =>
        by_cases hz : z = x
        · exact ⟨0, by simp [hz], fun j y h => by omega⟩
        · have hx' : x ∈ l := by
            rcases List.mem_cons.1 hx with h | h
            · exact absurd h.symm hz
            · exact h
          obtain ⟨k, h1, h2⟩ := ih (by simp at hl; omega) hx'
          refine ⟨k + 1, by simpa using h1, fun j y hj hy => ?_⟩
          match j with
          | 0 => simp at hy; subst hy; exact hz
          | j + 1 => exact h2 j y (by omega) (by simpa using hy)
    obtain ⟨k, h1, h2⟩ := this
    exact ⟨k, main k (.inl ⟨k, rfl, h1, h2⟩), ⟨fun _ => hx, fun _ => by omega⟩⟩
  · exact ⟨-1, main (-1) (.inr ⟨rfl, hx⟩), ⟨fun h => by omega, fun h => absurd h hx⟩⟩

theorem contains_ok (l : List Int) (x : Int) (hl : l.length < 10000) : ACall Tryd.prog n_slices_Contains_intint [.sl (eIs l), .lit (.int .i64 x)] (.sb (decide (x ∈ l))) := by
  obtain ⟨i, h1, h2⟩ := index_ok l x hl
  refine acall_of_wcx ttok mixed Tryd.func70 rfl (by rfl) (Nat.le_of_ble_eq_true rfl) (by kernel_rfl) ?_
  refine .inl ⟨_, h1, ?_⟩
  show AV.sb (decide (0 ≤ i)) = _
  by_cases h : x ∈ l
  · simp [h, h2.2 h]
  · simp [h]; have : ¬ 0 ≤ i := fun hh => h (h2.1 hh); omega

theorem ints_ok (F : Int) (b : Nat → Int) (l : List Rw) (a : Nat) (hc : ∀ r ∈ l, colOk a r) (hb : l.length < 10000) :
    ACall Tryd.prog n_cover_ints [.sl (eRws F b l), .lit (.int .i64 (a : Nat))] (.sl (eIs (intsOf a l))) := by
  refine acall_of_wcx ttok mixed Tryd.func38 rfl (by rfl) (Nat.le_of_ble_eq_true rfl) (by kernel_rfl) ?_
  refine ⟨{k : Nat // k ≤ l.length}, fun k => { vs := [(1, sv (a : Nat)), (5, .v (.sl (eIs (intsOf a (l.take k.1))))), (9, .v (.sl (eRws F b l))), (10, sv (l.length : Nat)), (11, sv (k.1 : Nat))], ow := [(5, 0, 2)] },
    fun k => l.length - k.1, ⟨0, Nat.zero_le _⟩, ⟨⟨rfl, rfl, rfl, svc (by rw [lenRw]), rfl, trivial⟩, ⟨trivial, trivial⟩, rfl⟩, ?_⟩
  rintro ⟨k, hk⟩
  refine ⟨fun h => ?_, fun h => ?_⟩
  · have h : k < l.length := by have h := of_decide_eq_true h; simp only at h; omega
    obtain ⟨p, p1, p2, p3, p4, p5⟩ := hc _ (List.getElem_mem h)
    have ha : a < l[k].ps.length := (List.getElem?_eq_some_iff.1 p1).1
    have hp' : (ePts l[k].ps)[a]? = some (ePt p) := by simp [ePts, p1]
    have hst : intsOf a (l.take (k + 1)) = intStep a (intsOf a (l.take k)) l[k] := by unfold intsOf; rw [List.take_succ_eq_append_getElem h, List.foldl_append]; rfl
    have hle : (intsOf a (l.take k)).length ≤ k := by have := ints_le a (l.take k) []; simp at this; exact Nat.le_trans this (by omega)
    generalize intsOf a (l.take k) = out at hst hle
    have hlen : (eIs out).length = out.length := by simp [eIs]
    have hstep : intStep a out l[k] = if p.f = 3 ∧ p.n ∉ out then out ++ [p.n] else out := by unfold intStep; rw [p1]
    have idx : SV.v (AV.lit (Value.int .i64 (IntKind.i64.wrap ((k : Int) + 1)))) = SV.v (AV.lit (Value.int .i64 ((k + 1 : Nat) : Int))) := svc (wrap_succ (k := k) (by omega))
    have hcn := contains_ok out p.n (by omega)
    refine ⟨_, by omega, getRw h, rfl, ?_⟩
    refine ⟨_, by omega, hp', rfl, ?_⟩
    by_cases h3 : p.f = 3
    · refine ⟨fun hbs => ?_, fun hbs => ?_⟩ <;> first | (exfalso; revert hbs; (simp [h3]); done) | skip
      refine .inl ⟨_, hcn, ?_⟩
      by_cases h4 : p.n ∈ out
      · have h4' : decide (p.n ∈ out) = true := decide_eq_true h4
        rw [h4']
        refine ⟨fun hbs => ?_, fun hbs => ?_⟩ <;> first | (exfalso; revert hbs; simp [Kn.form]; done) | skip
        refine ⟨⟨k + 1, h⟩, by simp; omega, ⟨rfl, ?_, rfl, rfl, idx, trivial⟩, ⟨rfl, trivial⟩, rfl⟩
        show _ = SV.v (AV.sl (eIs (intsOf a (l.take (k + 1)))))
        rw [hst, hstep, if_neg (fun h => h.2 h4)]; rfl
      · have h4' : decide (p.n ∈ out) = false := decide_eq_false h4
        rw [h4']
        refine ⟨fun hbs => ?_, fun hbs => ?_⟩ <;> first | (exfalso; revert hbs; simp [Kn.form]; done) | skip
        refine ⟨by rw [hlen]; simp; omega, uniI _, uniI [p.n], ?_⟩
        refine ⟨⟨k + 1, h⟩, by simp; omega, ⟨rfl, ?_, rfl, rfl, idx, trivial⟩, ⟨rfl, trivial⟩, rfl⟩
        show _ = SV.v (AV.sl (eIs (intsOf a (l.take (k + 1)))))
        rw [hst, hstep, if_pos ⟨h3, h4⟩]
        unfold eIs
        rw [List.map_append]; rfl
    · refine ⟨fun hbs => ?_, fun hbs => ?_⟩ <;> first | (exfalso; revert hbs; (simp [h3]); done) | skip
      refine ⟨⟨k + 1, h⟩, by simp; omega, ⟨rfl, ?_, rfl, rfl, idx, trivial⟩, ⟨rfl, trivial⟩, rfl⟩
      show _ = SV.v (AV.sl (eIs (intsOf a (l.take (k + 1)))))
      rw [hst, hstep, if_neg (fun h => h3 h.1)]; rfl
  · have h : k = l.length := by have h := of_decide_eq_false h; simp only at h; omega
    subst h
    show AV.sl (eIs (intsOf a (l.take l.length))) = _
    rw [List.take_length]
end Go.Proofs.YtefdahofpjmnfaaDoor

namespace Go.Proofs.YtefdahofpjmnfaaDoor
open Go Fp
set_option maxRecDepth 10000
set_option maxHeartbeats 16000000

theorem wilds_ok (n : Nat) (hn : n ≤ 2) : ACall Tryd.prog n_cover_wilds [.lit (.int .i64 (n : Nat))] (.sl (ePts (List.replicate n wildP))) := by
  have hr := repeat_ok (ePt wildP) n hn rfl (fun c hc => by simp [ePt, AV.cells] at hc; rcases hc with rfl | rfl | rfl | rfl | rfl | rfl | rfl | rfl | rfl | rfl <;> rfl)
  have e : List.replicate n (ePt wildP) = ePts (List.replicate n wildP) := by simp [ePts]
  rw [e] at hr
  refine acall_of_wcx ttok mixed Tryd.func67 rfl (by rfl) (Nat.le_of_ble_eq_true rfl) (by kernel_rfl) ?_
  exact .inl ⟨_, hr, rfl⟩

/-- What takes patterns apart, as a value. -/
def afn : Kn → AV
  | .con s _ => .fn (.func n_cover_ofCon_1) [] [.ptr [.lit (.string s)]]
  | .int x => .fn (.func n_cover_ofInt_1) [] [.ptr [.lit (.int .i64 x)]]
  | .none => .lit (fnv n_cover_ofNone)
theorem ofCon_ok (s : ByteArray) (n : Nat) : ACall Tryd.prog n_cover_ofCon [.lit (.string s)] (afn (.con s n)) := by
  refine acall_of_wcx ttok mixed Tryd.func37 rfl (by rfl) (Nat.le_of_ble_eq_true rfl) (by kernel_rfl) ?_
  exact .inl rfl
theorem ofInt_ok (x : Int) : ACall Tryd.prog n_cover_ofInt [.lit (.int .i64 x)] (afn (.int x)) := by
  refine acall_of_wcx ttok mixed Tryd.func39 rfl (by rfl) (Nat.le_of_ble_eq_true rfl) (by kernel_rfl) ?_
  exact .inl rfl

theorem ofCon1_ok (s : ByteArray) (p : Pt) : ACall Tryd.prog n_cover_ofCon_1 [ePt p, .ptr [.lit (.string s)]] (.tup [.sl p.eKids, .sb (decide (p.f = 4) && decide (p.s = s))]) := by
  refine acall_of_wcx ttok mixed Tryd.func69 rfl (by rfl) (Nat.le_of_ble_eq_true rfl) (by kernel_rfl) ?_
  refine ⟨fun h => ?_, fun h => ?_⟩
  · rw [h]
    exact ⟨by decide, rfl⟩
  · rw [h]
    exact ⟨by decide, rfl⟩
theorem ofInt1_ok (x : Int) (p : Pt) : ACall Tryd.prog n_cover_ofInt_1 [ePt p, .ptr [.lit (.int .i64 x)]] (.tup [.sl [], .sb (decide (p.f = 3) && decide (p.n = x))]) := by
  refine acall_of_wcx ttok mixed Tryd.func71 rfl (by rfl) (Nat.le_of_ble_eq_true rfl) (by kernel_rfl) ?_
  refine ⟨fun h => ?_, fun h => ?_⟩
  · rw [h]
    exact ⟨by decide, rfl⟩
  · rw [h]
    exact ⟨by decide, rfl⟩
theorem ofNone_ok (p : Pt) : ACall Tryd.prog n_cover_ofNone [ePt p] (.tup [.sl [], .sb false]) := by
  refine acall_of_wcx ttok mixed Tryd.func40 rfl (by rfl) (Nat.le_of_ble_eq_true rfl) (by kernel_rfl) ?_
  exact rfl
theorem var_ok (s : ByteArray) : ACall Tryd.prog n_core_Var [.lit (.string s)] (.agg [.lit (.int .i64 1), .lit (.int .i64 0), .lit (.string s), .lit (.int .i64 0), .lit (.int .i64 0), .lit (.string .empty), .sl [], .sl [], .sl [], .sl []]) := by
  refine acall_of_wcx ttok mixed Tryd.func31 rfl (by rfl) (Nat.le_of_ble_eq_true rfl) (by kernel_rfl) ?_
  exact rfl

/-- Its parts, and whether it is looked at. -/
def Kn.prt (K : Kn) (p : Pt) : List Pt := match K with
  | .con _ _ => p.k
  | _ => []
/-- One row, taken apart. -/
def formR (K : Kn) (a : Nat) (y : ByteArray) (r : Rw) (p : Pt) : Rw × Bool := if p.opn = true then
    (⟨r.ps.take a ++ List.replicate K.many wildP ++ r.ps.drop (a + 1), r.lost ++ (if p.f = 2 then [(p.s, p.t, y)] else []), r.body⟩, true)
  else (⟨r.ps.take a ++ K.prt p ++ r.ps.drop (a + 1), r.lost, r.body⟩, K.hits p)

theorem part_form {K : Kn} {a : Nat} {y : ByteArray} {r : Rw} {p : Pt} (hp : r.ps[a]? = some p) (hk : p.f = 3 → p.k = []) : part K a y r = if (formR K a y r p).2 = true then some (formR K a y r p).1 else none := by
  unfold part formR
  rw [hp]
  simp only
  by_cases ho : p.opn = true
  · simp [ho]
  · rw [if_neg ho, if_neg ho]
    cases K with
    | con s n => rfl
    | int x =>
      by_cases hh : (Kn.int x).hits p = true
      · have h3 : p.f = 3 := by simp [Kn.hits] at hh; exact hh.1
        simp only [hh, if_true, Kn.prt, hk h3]
      · simp only [hh]; rfl
    | none => rfl

abbrev forms1A (K : Kn) (a : Nat) (y : ByteArray) : List AV := [.ptr [.lit (.int .i64 (a : Nat))], .ptr [afn K], .ptr [.lit (.int .i64 (K.many : Nat))], .ptr [.lit (.string y)]]

theorem forms1_ok (F : Int) (b : Nat → Int) (K : Kn) (r : Rw) (a : Nat) (y : ByteArray) {p : Pt} (hp : r.ps[a]? = some p) (hkk : p.k.length ≤ 2) (hm : K.many ≤ 2) (hb : r.ps.length < 10000) (hlo : r.lost.length < 10000) :
    ACall Tryd.prog n_cover_forms_1 (eRw F b r :: forms1A K a y) (.tup [eRw F b (formR K a y r p).1, .sb (formR K a y r p).2]) := by
  have ha : a < r.ps.length := (List.getElem?_eq_some_iff.1 hp).1
  have hp' : (ePts r.ps)[a]? = some (ePt p) := by simp [ePts, hp]
  have wa : IntKind.i64.wrap ((a : Int) + 1) = ((a + 1 : Nat) : Int) := wrap_succ (by omega)
  have hlen := lenP r.ps
  have hop := open_ok p
  have hw := wilds_ok K.many hm
  have hv := var_ok y
  have e1 : List.drop (Int.toNat 0) (List.take (Int.toNat (a : Int)) (ePts r.ps)) = ePts (r.ps.take a) := partsP r.ps a
  have e2 : List.drop (Int.toNat (IntKind.i64.wrap ((a : Int) + 1))) (List.take (Int.toNat (((ePts r.ps).length : Nat) : Int)) (ePts r.ps)) = ePts (r.ps.drop (a + 1)) := by
    rw [wa]; simp only [Int.toNat_natCast, List.take_length, ePts, List.map_drop]
  have cc : ∀ m : List Pt, m.length ≤ 2 → ACall Tryd.prog n_slices_Concat_apiPatapiPat [.sl [.sl (List.drop (Int.toNat 0) (List.take (Int.toNat (a : Int)) (ePts r.ps))), .sl (ePts m), .sl (List.drop (Int.toNat (IntKind.i64.wrap ((a : Int) + 1))) (List.take (Int.toNat (((ePts r.ps).length : Nat) : Int)) (ePts r.ps)))]]
      (.sl (ePts (r.ps.take a ++ m ++ r.ps.drop (a + 1)))) := fun m hml => by
    rw [e1, e2]
    have := concat65_ok [ePts (r.ps.take a), ePts m, ePts (r.ps.drop (a + 1))] (by simp) (fun l hl => by simp at hl; rcases hl with rfl | rfl | rfl <;> exact uniP _) (by simp [ePts]; omega)
    rw [show [ePts (r.ps.take a), ePts m, ePts (r.ps.drop (a + 1))].flatten = ePts (r.ps.take a ++ m ++ r.ps.drop (a + 1)) by simp [ePts]] at this
    exact this
  have hels := p.eKids_eq
  have sl1 : (0 : Int) ≤ 0 ∧ (0 : Int) ≤ (a : Nat) ∧ ((a : Nat) : Int) ≤ ((ePts r.ps).length : Nat) := ⟨by omega, by omega, by rw [hlen]; omega⟩
  have sl2 : (0 : Int) ≤ IntKind.i64.wrap ((a : Int) + 1) ∧ IntKind.i64.wrap ((a : Int) + 1) ≤ ((ePts r.ps).length : Nat) := by rw [wa, hlen]; omega
  have hll : (eLs r.lost).length = r.lost.length := by simp [eLs]
  have eL1 : List.drop (Int.toNat 0) (List.take (Int.toNat (((eLs r.lost).length : Nat) : Int)) (eLs r.lost)) = eLs r.lost := by simp
  have tail : ∀ (m : List Pt) (is : Bool), m.length ≤ 2 → Wsem Tryd.prog (sndC (sndC (sndC (sndC (bodyC Tryd.f66))))) (mkC { vs := [(1, .v (.ptr [.lit (.int .i64 (a : Nat))])), (4, .v (.ptr [.lit (.string y)])), (5, .box 0 (eRw F b r)), (6, .box 0 (eRw 0 (fun _ => 0) ⟨[], [], 0⟩)), (8, .box 0 (ePt p)), (9, .v (.sl (ePts m))), (10, .v (.sb is))] })
      (fun c => RetP tt Tryd.f66.results.toList (.tup [eRw F b ⟨r.ps.take a ++ m ++ r.ps.drop (a + 1), r.lost ++ (if p.f = 2 then [(p.s, p.t, y)] else []), r.body⟩, .sb is]) (den c)) (fun _ _ => False) (fun c => RetP tt Tryd.f66.results.toList (.tup [eRw F b ⟨r.ps.take a ++ m ++ r.ps.drop (a + 1), r.lost ++ (if p.f = 2 then [(p.s, p.t, y)] else []), r.body⟩, .sb is]) (den c)) := fun m is hml => by
    have c1 := cc m hml
    refine Wsem.of ttok mixed ?_
    refine ⟨sl1.1, sl1.2.1, sl1.2.2, rfl, .inl rfl, ?_⟩
    refine ⟨sl2.1, sl2.2, Int.le_refl _, .inr (uniP _), ?_⟩
    refine .inl ⟨_, c1, ?_⟩
    refine ⟨by kernel_rfl, ?_⟩
    by_cases h2 : p.f = 2
    · have fin : ∀ L : List AV, L = eLs r.lost → AV.tup [.agg [.sl (ePts (r.ps.take a ++ m ++ r.ps.drop (a + 1))), .sl (L ++ [eL (p.s, p.t, y)]), .lit (.int .i64 F), .lit (.int .i64 (b r.body)), .lit (.string .empty), .lit (.int .i64 0), .lit (.int .i64 0), .lit (.string .empty), .sl [], .sl [], .sl [], .sl []], .sb is] =
          AV.tup [eRw F b ⟨r.ps.take a ++ m ++ r.ps.drop (a + 1), r.lost ++ (if p.f = 2 then [(p.s, p.t, y)] else []), r.body⟩, .sb is] := fun L hL => by
        rw [hL, if_pos h2]
        unfold eRw
        simp [eLs]
      refine ⟨fun hbs => ?_, fun hbs => ?_⟩ <;> first | (exfalso; revert hbs; (simp [h2]); done) | skip
      refine ⟨by decide, Int.natCast_nonneg _, Int.le_refl _, rfl, .inl rfl, ?_⟩
      refine .inl ⟨_, hv, ?_⟩
      refine ⟨by rw [eL1, hll]; simp; omega, by rw [eL1]; exact uniL _, uniL [(p.s, p.t, y)], ?_⟩
      refine ⟨by kernel_rfl, ?_⟩
      exact fin _ eL1
    · refine ⟨fun hbs => ?_, fun hbs => ?_⟩ <;> first | (exfalso; revert hbs; (simp [h2]); done) | skip
      rw [if_neg h2, List.append_nil]
      exact rfl
  unfold formR
  refine acall_of_wsem ttok mixed Tryd.func66 rfl (by rfl) (Nat.le_of_ble_eq_true rfl) (by kernel_rfl) ?_
  refine Wsem.seq ttok mixed ?_
  refine Wsem.seq ttok mixed ?_
  refine ⟨_, by omega, hp', rfl, ?_⟩
  refine Wsem.seq ttok mixed ?_
  cases ho : p.opn with
  | true =>
    rw [ho] at hop
    rw [if_pos rfl]
    have t := tail (List.replicate K.many wildP) true (by simpa using hm)
    cases K with
    | con s n =>
      refine .inl ⟨_, ofCon1_ok s p, ?_⟩
      refine Wsem.seq ttok mixed ?_
      refine .inl ⟨_, hop, ?_⟩
      refine ⟨fun hbs => ?_, fun hbs => ?_⟩ <;> first | (exfalso; revert hbs; simp [Kn.form]; done) | skip
      refine .inl ⟨_, hw, ?_⟩
      refine Wsem.cut _ ?_ t
      exact ⟨⟨rfl, rfl, rfl, rfl, rfl, rfl, rfl, trivial⟩, trivial, rfl⟩
    | int x =>
      refine .inl ⟨_, ofInt1_ok x p, ?_⟩
      refine Wsem.seq ttok mixed ?_
      refine .inl ⟨_, hop, ?_⟩
      refine ⟨fun hbs => ?_, fun hbs => ?_⟩ <;> first | (exfalso; revert hbs; simp [Kn.form]; done) | skip
      refine .inl ⟨_, hw, ?_⟩
      refine Wsem.cut _ ?_ t
      exact ⟨⟨rfl, rfl, rfl, rfl, rfl, rfl, rfl, trivial⟩, trivial, rfl⟩
    | none =>
      refine .inl ⟨_, ofNone_ok p, ?_⟩
      refine Wsem.seq ttok mixed ?_
      refine .inl ⟨_, hop, ?_⟩
      refine ⟨fun hbs => ?_, fun hbs => ?_⟩ <;> first | (exfalso; revert hbs; simp [Kn.form]; done) | skip
      refine .inl ⟨_, hw, ?_⟩
      refine Wsem.cut _ ?_ t
      exact ⟨⟨rfl, rfl, rfl, rfl, rfl, rfl, rfl, trivial⟩, trivial, rfl⟩
  | false =>
    rw [ho] at hop
    rw [if_neg (by simp)]
    have hf2 : p.f ≠ 2 := fun h => by simp [Pt.opn, h] at ho
    cases K with
    | con s n =>
      have t := tail p.k ((.con s n : Kn).hits p) (by first | exact hkk | simp)
      rw [if_neg hf2, show r.lost ++ [] = r.lost from List.append_nil _] at t
      refine .inl ⟨_, ofCon1_ok s p, ?_⟩
      refine Wsem.seq ttok mixed ?_
      refine .inl ⟨_, hop, ?_⟩
      refine ⟨fun hbs => ?_, fun hbs => ?_⟩ <;> first | (exfalso; revert hbs; simp [Kn.form]; done) | skip
      refine Wsem.cut _ ?_ t
      refine ⟨⟨rfl, rfl, rfl, rfl, rfl, ?_, rfl, trivial⟩, trivial, rfl⟩
      rw [← hels]; exact rfl
    | int x =>
      have t := tail [] ((.int x : Kn).hits p) (by first | exact hkk | simp)
      rw [if_neg hf2, show r.lost ++ [] = r.lost from List.append_nil _] at t
      refine .inl ⟨_, ofInt1_ok x p, ?_⟩
      refine Wsem.seq ttok mixed ?_
      refine .inl ⟨_, hop, ?_⟩
      refine ⟨fun hbs => ?_, fun hbs => ?_⟩ <;> first | (exfalso; revert hbs; simp [Kn.form]; done) | skip
      refine Wsem.cut _ ?_ t
      refine ⟨⟨rfl, rfl, rfl, rfl, rfl, ?_, rfl, trivial⟩, trivial, rfl⟩
      exact rfl
    | none =>
      have t := tail [] ((.none : Kn).hits p) (by first | exact hkk | simp)
      rw [if_neg hf2, show r.lost ++ [] = r.lost from List.append_nil _] at t
      refine .inl ⟨_, ofNone_ok p, ?_⟩
      refine Wsem.seq ttok mixed ?_
      refine .inl ⟨_, hop, ?_⟩
      refine ⟨fun hbs => ?_, fun hbs => ?_⟩ <;> first | (exfalso; revert hbs; simp [Kn.form]; done) | skip
      refine Wsem.cut _ ?_ t
      refine ⟨⟨rfl, rfl, rfl, rfl, rfl, ?_, rfl, trivial⟩, trivial, rfl⟩
      exact rfl

end Go.Proofs.YtefdahofpjmnfaaDoor
