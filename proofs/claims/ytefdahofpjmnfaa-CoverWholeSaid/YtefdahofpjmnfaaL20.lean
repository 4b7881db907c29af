/- Of Go's library: Grow, Concat. No condition. -/
import Derived.Test.YtefdahofpjmnfaaL16
set_option linter.unusedSimpArgs false
set_option linter.unusedVariables false
namespace Go.Proofs.Ytefdahofpjmnfaa
open Go Fp
set_option maxRecDepth 10000
set_option maxHeartbeats 4000000

def growPost (esz : Nat) (r : AV) (o : Nat) (h : List (Nat × HO)) : Prop :=
  (r = .sl [] ∧ o = esz + 1 ∧ h = []) ∨ (o = 0 ∧ ∃ b cap zs, r = .lit (.slice (some ⟨b, 0, none⟩) 0 cap) ∧ h = [(b, HO.cells zs)] ∧ cap * esz ≤ zs.length)
theorem flat_take {α : Type} {ls : List (List α)} {k : Nat} (h : k < ls.length) : (ls.take (k + 1)).flatten = (ls.take k).flatten ++ ls[k] := by
  rw [List.take_succ_eq_append_getElem h, List.flatten_append]; simp
theorem flat_le {α : Type} : ∀ (ls : List (List α)) (k : Nat), (ls.take k).flatten.length ≤ ls.flatten.length
  | [], k => by simp
  | l :: ls, 0 => by simp
  | l :: ls, k + 1 => by have := flat_le ls k; simp only [List.take_succ_cons, List.flatten_cons, List.length_append]; omega
theorem flat_uni {n : Nat} {ls : List (List AV)} (hu : ∀ l ∈ ls, Uni n l) (k : Nat) : Uni n (ls.take k).flatten := fun a ha => by
  obtain ⟨l, hl, h⟩ := List.mem_flatten.1 ha
  exact hu l (List.mem_of_mem_take hl) a h

theorem grow48_ok (n : Nat) (hn : n ≤ 100000) : CallsG Try.prog (fnv 48) [] [.nil, .lit (.int .i64 (n : Nat))] [] fun r o h => r = .sl [] ∧ o = 6 ∧ h = [] := by
  have w0 : IntKind.i64.wrap ((n : Int) - IntKind.i64.wrap (0 - (([] : List AV).length : Nat))) = (n : Int) := by
    rw [show IntKind.i64.wrap (0 - (([] : List AV).length : Nat)) = 0 from rfl, Int.sub_zero]; exact wrap_nat (by omega)
  refine CallsG.opened (esz := 5) (callsG_of_wcxN (os := [6]) ttok mixed Try.func48 rfl (by rfl) (fun i sz h => ?_) (Nat.le_of_ble_eq_true rfl) (by kernel_rfl) (post := growPost 5) ?_) (fun r o h hp => hp)
  · match i with
    | 0 => rfl
    | i + 1 => simp at h
  refine ⟨fun h => ?_, fun _ => ?_⟩
  · have h := of_decide_eq_true h; omega
  refine ⟨fun h => ?_, fun h => ?_⟩
  · have h := of_decide_eq_true h
    rw [w0] at h
    refine .inl ⟨rfl, rfl, ?_⟩
    refine ⟨n, w0, by omega, by omega, fun b cap zs h1 h2 => ?_⟩
    refine ⟨by decide, by decide, by exact_mod_cast Nat.zero_le _, ?_⟩
    refine .inr ⟨rfl, b, cap, zs, ?_, rfl, by omega⟩
    have e : ∀ A B : Option Addr, A = some ⟨b, 0, none⟩ → B = some ⟨b, 0, none⟩ → AV.lit (.slice (if cap = 0 then A else B) 0 cap) = .lit (.slice (some ⟨b, 0, none⟩) 0 cap) := fun A B hA hB => by rw [hA, hB]; split <;> rfl
    exact e _ _ rfl rfl
  · exact .inl ⟨rfl, rfl, rfl⟩

theorem concat25_ok (ls : List (List AV)) (hn : ls.length < 10000) (hu : ∀ l ∈ ls, Uni 5 l) (ht : ls.flatten.length ≤ 100000) : ACall Try.prog 25 [.sl (ls.map AV.sl)] (.sl ls.flatten) := by
  refine acall_of_wcx ttok mixed Try.func25 rfl (by rfl) (Nat.le_of_ble_eq_true rfl) (by kernel_rfl) ?_
  have hml : (ls.map AV.sl).length = ls.length := by simp
  refine ⟨{k : Nat // k ≤ ls.length}, fun k => { vs := [(0, .v (.sl (ls.map AV.sl))), (3, sv ((ls.take k.1).flatten.length : Nat)), (9, .v (.sl (ls.map AV.sl))), (10, sv (ls.length : Nat)), (11, sv (k.1 : Nat))] },
    fun k => ls.length - k.1, ⟨0, Nat.zero_le _⟩, ⟨⟨rfl, rfl, rfl, svc (by rw [hml]), rfl, trivial⟩, trivial, rfl⟩, ?_⟩
  rintro ⟨k, hk⟩
  refine ⟨fun h => ?_, fun h => ?_⟩
  · have h : k < ls.length := by have h := of_decide_eq_true h; simp only at h; omega
    have hfl := flat_take h
    have hle := flat_le ls (k + 1)
    refine ⟨.sl ls[k], by omega, getM (f := AV.sl) h, rfl, ?_⟩
    have w1 : IntKind.i64.wrap (((ls.take k).flatten.length : Nat) + (ls[k].length : Nat)) = ((ls.take (k + 1)).flatten.length : Nat) := by
      rw [hfl, List.length_append, ← Int.natCast_add]; exact wrap_nat (by rw [hfl, List.length_append] at hle; omega)
    refine ⟨fun h2 => ?_, fun _ => ?_⟩
    · have h2 := of_decide_eq_true h2
      simp only [w1] at h2; omega
    exact ⟨⟨k + 1, h⟩, by simp; omega, ⟨rfl, svc w1, rfl, rfl, svc (wrap_succ (k := k) (by omega)), trivial⟩, trivial, rfl⟩
  · have h : k = ls.length := by have h := of_decide_eq_false h; simp only at h; omega
    subst h
    have hg := grow48_ok ls.flatten.length ht
    rw [show ls.flatten.length = (ls.take ls.length).flatten.length by rw [List.take_length]] at hg
    refine .inr (.inr (.inr (.inr (.inr (.inl ⟨[], [], [], _, rfl, List.nodup_nil, rfl, hg, ?_⟩)))))
    rintro r w hout ⟨rfl, rfl, rfl⟩
    refine ⟨{k : Nat // k ≤ ls.length}, fun k => { vs := [(6, .v (.sl (ls.take k.1).flatten)), (25, .v (.sl (ls.map AV.sl))), (26, sv (ls.length : Nat)), (27, sv (k.1 : Nat))], ow := [(6, 0, 6)] },
      fun k => ls.length - k.1, ⟨0, Nat.zero_le _⟩, ⟨⟨rfl, rfl, svc (by rw [hml]), rfl, trivial⟩, ⟨rfl, trivial⟩, rfl⟩, ?_⟩
    rintro ⟨k, hk⟩
    refine ⟨fun h => ?_, fun h => ?_⟩
    · have h : k < ls.length := by have h := of_decide_eq_true h; simp only at h; omega
      have hfl := flat_take h
      have hle := flat_le ls (k + 1)
      refine ⟨.sl ls[k], by omega, getM (f := AV.sl) h, rfl, ?_⟩
      refine ⟨by rw [hfl, List.length_append] at hle; simp only; omega, flat_uni hu k, hu _ (List.getElem_mem h), ?_⟩
      refine ⟨⟨k + 1, h⟩, by simp; omega, ⟨?_, rfl, rfl, svc (wrap_succ (k := k) (by omega)), trivial⟩, ⟨rfl, trivial⟩, rfl⟩
      show _ = SV.v (AV.sl (ls.take (k + 1)).flatten)
      rw [hfl]; rfl
    · have h : k = ls.length := by have h := of_decide_eq_false h; simp only at h; omega
      subst h
      show AV.sl (ls.take ls.length).flatten = _
      rw [List.take_length]


theorem grow75_ok (n : Nat) (hn : n ≤ 100000) : CallsG Try.prog (fnv 75) [] [.nil, .lit (.int .i64 (n : Nat))] [] fun r o h => r = .sl [] ∧ o = 11 ∧ h = [] := by
  have w0 : IntKind.i64.wrap ((n : Int) - IntKind.i64.wrap (0 - (([] : List AV).length : Nat))) = (n : Int) := by
    rw [show IntKind.i64.wrap (0 - (([] : List AV).length : Nat)) = 0 from rfl, Int.sub_zero]; exact wrap_nat (by omega)
  refine CallsG.opened (esz := 10) (callsG_of_wcxN (os := [11]) ttok mixed Try.func75 rfl (by rfl) (fun i sz h => ?_) (Nat.le_of_ble_eq_true rfl) (by kernel_rfl) (post := growPost 10) ?_) (fun r o h hp => hp)
  · match i with
    | 0 => rfl
    | i + 1 => simp at h
  refine ⟨fun h => ?_, fun _ => ?_⟩
  · have h := of_decide_eq_true h; omega
  refine ⟨fun h => ?_, fun h => ?_⟩
  · have h := of_decide_eq_true h
    rw [w0] at h
    refine .inl ⟨rfl, rfl, ?_⟩
    refine ⟨n, w0, by omega, by omega, fun b cap zs h1 h2 => ?_⟩
    refine ⟨by decide, by decide, by exact_mod_cast Nat.zero_le _, ?_⟩
    refine .inr ⟨rfl, b, cap, zs, ?_, rfl, by omega⟩
    have e : ∀ A B : Option Addr, A = some ⟨b, 0, none⟩ → B = some ⟨b, 0, none⟩ → AV.lit (.slice (if cap = 0 then A else B) 0 cap) = .lit (.slice (some ⟨b, 0, none⟩) 0 cap) := fun A B hA hB => by rw [hA, hB]; split <;> rfl
    exact e _ _ rfl rfl
  · exact .inl ⟨rfl, rfl, rfl⟩

theorem concat65_ok (ls : List (List AV)) (hn : ls.length < 10000) (hu : ∀ l ∈ ls, Uni 10 l) (ht : ls.flatten.length ≤ 100000) : ACall Try.prog 65 [.sl (ls.map AV.sl)] (.sl ls.flatten) := by
  refine acall_of_wcx ttok mixed Try.func65 rfl (by rfl) (Nat.le_of_ble_eq_true rfl) (by kernel_rfl) ?_
  have hml : (ls.map AV.sl).length = ls.length := by simp
  refine ⟨{k : Nat // k ≤ ls.length}, fun k => { vs := [(0, .v (.sl (ls.map AV.sl))), (3, sv ((ls.take k.1).flatten.length : Nat)), (9, .v (.sl (ls.map AV.sl))), (10, sv (ls.length : Nat)), (11, sv (k.1 : Nat))] },
    fun k => ls.length - k.1, ⟨0, Nat.zero_le _⟩, ⟨⟨rfl, rfl, rfl, svc (by rw [hml]), rfl, trivial⟩, trivial, rfl⟩, ?_⟩
  rintro ⟨k, hk⟩
  refine ⟨fun h => ?_, fun h => ?_⟩
  · have h : k < ls.length := by have h := of_decide_eq_true h; simp only at h; omega
    have hfl := flat_take h
    have hle := flat_le ls (k + 1)
    refine ⟨.sl ls[k], by omega, getM (f := AV.sl) h, rfl, ?_⟩
    have w1 : IntKind.i64.wrap (((ls.take k).flatten.length : Nat) + (ls[k].length : Nat)) = ((ls.take (k + 1)).flatten.length : Nat) := by
      rw [hfl, List.length_append, ← Int.natCast_add]; exact wrap_nat (by rw [hfl, List.length_append] at hle; omega)
    refine ⟨fun h2 => ?_, fun _ => ?_⟩
    · have h2 := of_decide_eq_true h2
      simp only [w1] at h2; omega
    exact ⟨⟨k + 1, h⟩, by simp; omega, ⟨rfl, svc w1, rfl, rfl, svc (wrap_succ (k := k) (by omega)), trivial⟩, trivial, rfl⟩
  · have h : k = ls.length := by have h := of_decide_eq_false h; simp only at h; omega
    subst h
    have hg := grow75_ok ls.flatten.length ht
    rw [show ls.flatten.length = (ls.take ls.length).flatten.length by rw [List.take_length]] at hg
    refine .inr (.inr (.inr (.inr (.inr (.inl ⟨[], [], [], _, rfl, List.nodup_nil, rfl, hg, ?_⟩)))))
    rintro r w hout ⟨rfl, rfl, rfl⟩
    refine ⟨{k : Nat // k ≤ ls.length}, fun k => { vs := [(6, .v (.sl (ls.take k.1).flatten)), (25, .v (.sl (ls.map AV.sl))), (26, sv (ls.length : Nat)), (27, sv (k.1 : Nat))], ow := [(6, 0, 11)] },
      fun k => ls.length - k.1, ⟨0, Nat.zero_le _⟩, ⟨⟨rfl, rfl, svc (by rw [hml]), rfl, trivial⟩, ⟨rfl, trivial⟩, rfl⟩, ?_⟩
    rintro ⟨k, hk⟩
    refine ⟨fun h => ?_, fun h => ?_⟩
    · have h : k < ls.length := by have h := of_decide_eq_true h; simp only at h; omega
      have hfl := flat_take h
      have hle := flat_le ls (k + 1)
      refine ⟨.sl ls[k], by omega, getM (f := AV.sl) h, rfl, ?_⟩
      refine ⟨by rw [hfl, List.length_append] at hle; simp only; omega, flat_uni hu k, hu _ (List.getElem_mem h), ?_⟩
      refine ⟨⟨k + 1, h⟩, by simp; omega, ⟨?_, rfl, rfl, svc (wrap_succ (k := k) (by omega)), trivial⟩, ⟨rfl, trivial⟩, rfl⟩
      show _ = SV.v (AV.sl (ls.take (k + 1)).flatten)
      rw [hfl]; rfl
    · have h : k = ls.length := by have h := of_decide_eq_false h; simp only at h; omega
      subst h
      show AV.sl (ls.take ls.length).flatten = _
      rw [List.take_length]

end Go.Proofs.Ytefdahofpjmnfaa
