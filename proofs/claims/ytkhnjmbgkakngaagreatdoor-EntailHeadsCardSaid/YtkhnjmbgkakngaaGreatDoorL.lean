/- Classes of a small world. -/
import Derived.Test.YtkhnjmbgkakngaaGreatDoorK
set_option linter.unusedSimpArgs false
set_option linter.unusedVariables false
namespace Go.Proofs.YtkhnjmbgkakngaaGreatDoor
open Go Fp
set_option maxRecDepth 10000
set_option maxHeartbeats 4000000
set_option linter.unusedVariables false
set_option linter.unusedSimpArgs false

theorem whole0_ok (cs : List Cl) : ACall Tryz.prog n_fugueref11_Whole [eProg cs []] (eProg cs []) := by
  refine acall_of_wcx ttok mixed Tryz.func54 rfl (by rfl) (Nat.le_of_ble_eq_true rfl) (by kernel_rfl) ?_
  refine ⟨Unit, fun _ => { vs := [(1, .box 0 (eProg cs [])), (2, .box 0 (eProg [] [])), (3, .box 0 (eProg cs [])), (4, sv 0)] }, fun _ => 0, (), ⟨⟨rfl, rfl, rfl, rfl, trivial⟩, trivial, rfl⟩, ?_⟩
  rintro ⟨⟩
  refine ⟨fun hbs => ?_, fun hbs => ?_⟩ <;> first | (exfalso; revert hbs; (simp [eIns]); done) | skip
  exact rfl

structure PkP (m : List Int) (i r : Nat) : Prop where
  lt : r < 9223372036854775808
  ok : ACall Tryz.prog n_fugueref11_pick [.sl (eIs m), .lit (.int .i64 (i : Nat))] (.lit (.int .i64 (r : Nat)))
noncomputable def pk (m : List Int) (i : Nat) : Nat := Classical.epsilon (PkP m i)
theorem pk_ok {m : List Int} (hl : m.length < 1000000) (hr : ∀ x ∈ m, InR x) (i : Nat) : PkP m i (pk m i) := Classical.epsilon_spec (by
  obtain ⟨r, h1, h2⟩ := pick_ok hl hr i
  exact ⟨r, h1, h2⟩)
def atE (i k j : Nat) : Nat := if k % 7 = 6 then k / (3 + j) % 5 else k / (3 + 5 * j) % (i + 1)
def nm5 (i : Nat) : ByteArray := nms5.getD i .empty
def supE (i k j : Nat) : List ByteArray := if atE i k j < i ∨ k % 7 = 6 then [nm5 (atE i k j)] else []
def spsE (i k : Nat) : Nat → List ByteArray
  | 0 => []
  | j + 1 => spsE i k j ++ supE i k j
def sgE (i j : Nat) : ByteArray × Int := (⟨#[109]⟩ ++ nm5 ((i * 2 + j) % 5), ((10 * i + 2 + j : Nat) : Int))
def sgsE (i : Nat) : Nat → List (ByteArray × Int)
  | 0 => []
  | j + 1 => sgsE i j ++ [sgE i j]
def mkCl (i k : Nat) (s g : Nat) : Cl := ⟨nm5 i, ((10 * i + 1 : Nat) : Int), ⟨#[97]⟩, spsE i k s, sgsE i g⟩
noncomputable def csE (m : List Int) : Nat → List Cl
  | 0 => []
  | i + 1 => csE m i ++ [mkCl i (pk m (i + 1)) (pk m (i + 1) % 3) (pk m (i + 1) / 9 % 3)]
theorem spsE_len (i k : Nat) : ∀ j, (spsE i k j).length ≤ j
  | 0 => by simp [spsE]
  | j + 1 => by have := spsE_len i k j; rw [spsE, List.length_append]; unfold supE; split <;> simp <;> omega
theorem sgsE_len (i : Nat) : ∀ j, (sgsE i j).length = j
  | 0 => by simp [sgsE]
  | j + 1 => by rw [sgsE, List.length_append, sgsE_len i j]; rfl
theorem csE_len (m : List Int) : ∀ i, (csE m i).length = i
  | 0 => rfl
  | i + 1 => by rw [csE, List.length_append, csE_len m i]; rfl
theorem csE_nm (m : List Int) : ∀ i, i ≤ 5 → (csE m i).map Cl.nm = nms5.take i
  | 0, _ => rfl
  | i + 1, h => by
    rw [csE, List.map_append, csE_nm m i (by omega)]
    match i, h with
    | 0, _ | 1, _ | 2, _ | 3, _ | 4, _ => rfl
    | n + 5, h => omega
theorem csE_mem {m : List Int} {c : Cl} : ∀ {i}, c ∈ csE m i → c.sup.length ≤ 2 ∧ c.mth.length ≤ 2
  | 0, h => by simp [csE] at h
  | i + 1, h => by
    rw [csE] at h
    rcases List.mem_append.1 h with h | h
    · exact csE_mem h
    · simp at h
      subst h
      exact ⟨Nat.le_trans (spsE_len _ _ _) (by omega), by show (sgsE _ _).length ≤ 2; rw [sgsE_len]; omega⟩
theorem nms5_nodup : nms5.Nodup := by decide
theorem atE_lt {i : Nat} (hi : i < 5) (k j : Nat) : atE i k j < 5 := by
  unfold atE
  split
  · exact Nat.mod_lt _ (by decide)
  · have := Nat.mod_lt (k / (3 + 5 * j)) (show 0 < i + 1 by omega); omega
theorem wdiv {k d : Nat} (hk : k < 9223372036854775808) : IntKind.i64.wrap (Int.tdiv (k : Int) (d : Nat)) = ((k / d : Nat) : Int) := by
  rw [show Int.tdiv (k : Int) (d : Nat) = ((k / d : Nat) : Int) from rfl]
  exact wrap_nat (Nat.lt_of_le_of_lt (Nat.div_le_self _ _) hk)
end Go.Proofs.YtkhnjmbgkakngaaGreatDoor

namespace Go.Proofs.YtkhnjmbgkakngaaGreatDoor
open Go Fp
set_option maxRecDepth 10000
set_option maxHeartbeats 8000000
set_option linter.unusedVariables false
set_option linter.unusedSimpArgs false

theorem uniCl (l : List Cl) : Uni 6 (eCls l) := fun a ha => by obtain ⟨x, _, rfl⟩ := List.mem_map.1 ha; rfl
theorem uniSg (l : List (ByteArray × Int)) : Uni 9 (eSgs l) := fun a ha => by obtain ⟨x, _, rfl⟩ := List.mem_map.1 ha; rfl
theorem nm5_sz {i : Nat} (h : i < 5) : (nm5 i).size = 1 := by
  match i, h with
  | 0, _ | 1, _ | 2, _ | 3, _ | 4, _ => rfl
  | n + 5, h => omega
theorem nm5_at {i : Nat} {x : Int} (h : x = (i : Nat)) (hi : i < 5) : (eSs nms5)[x.toNat]? = some (.lit (.string (nm5 i))) := by
  subst h; exact nm5_get hi
theorem made_ok {m : List Int} (hl : m.length ≤ 6) (hr : ∀ x ∈ m, InR x) : ACall Tryz.prog n_fugueref11_Made [.sl (eIs m)] (eProg (csE m (pk m 0 % 6)) []) := by
  have hpk := fun i => pk_ok (m := m) (by omega) hr i
  have hp0 := (hpk 0).ok
  have hp1 := (hpk 0).lt
  revert hp0 hp1
  generalize pk m 0 = n
  intro hp0 hp1
  refine acall_of_wcx ttok mixed Tryz.func20 rfl (by rfl) (Nat.le_of_ble_eq_true rfl) (by kernel_rfl) ?_
  refine .inl ⟨_, names_ok, ?_⟩
  refine .inl ⟨_, hp0, ?_⟩
  refine ⟨{i : Nat // i ≤ n % 6}, fun i => { vs := [(0, .v (.sl (eIs m))), (2, .box 0 (eProg [] [])), (3, .v (.sl (eSs nms5))), (5, .box 0 (eProg (csE m i.1) [])), (6, sv (n : Nat)), (7, sv (i.1 : Nat))], ow := [(5, 1, 7)] },
    fun i => n % 6 - i.1, ⟨0, Nat.zero_le _⟩, ⟨⟨rfl, rfl, rfl, rfl, rfl, rfl, trivial⟩, ⟨trivial, trivial⟩, rfl⟩, ?_⟩
  rintro ⟨i, hi⟩
  have hn6 : n % 6 < 6 := Nat.mod_lt _ (by decide)
  refine ⟨by decide, ?_⟩
  refine ⟨fun h => ?_, fun h => ?_⟩
  · have h : i < n % 6 := by
      have h : (i : Int) < Int.tmod (n : Int) 6 := of_decide_eq_true h
      rw [show Int.tmod (n : Int) 6 = ((n % 6 : Nat) : Int) from rfl] at h; omega
    have hi6 := h
    have hi5 : i < 5 := by omega
    have hq := (hpk (i + 1)).ok
    have hkl := (hpk (i + 1)).lt
    have hcs : csE m (i + 1) = csE m i ++ [mkCl i (pk m (i + 1)) (pk m (i + 1) % 3) (pk m (i + 1) / 9 % 3)] := rfl
    rw [← wrap_succ (by omega)] at hq
    revert hq hkl hcs
    generalize pk m (i + 1) = k
    intro hq hkl hcs
    refine .inl ⟨_, hq, ?_⟩
    refine ⟨_, by omega, nm5_at rfl hi5, rfl, ?_⟩
    have eat : IntKind.i64.wrap (IntKind.i64.wrap (10 * (i : Int)) + 1) = ((10 * i + 1 : Nat) : Int) := by
      rw [show (10 : Int) * (i : Int) = ((10 * i : Nat) : Int) by omega, wrap_nat (by omega)]; exact wrap_succ (by omega)
    refine ⟨{j : Nat // j ≤ k % 3}, fun j => { vs := [(0, .v (.sl (eIs m))), (2, .box 0 (eProg [] [])), (3, .v (.sl (eSs nms5))), (5, .box 0 (eProg (csE m i) [])), (6, sv (n : Nat)), (7, sv (i : Nat)), (8, sv (k : Nat)), (9, .box 0 (eCl (mkCl i k j.1 0))), (10, sv (j.1 : Nat))], ow := [(5, 1, 7), (9, 4, 2), (9, 5, 10)] },
      fun j => k % 3 - j.1, ⟨0, Nat.zero_le _⟩, ⟨⟨rfl, rfl, rfl, rfl, rfl, rfl, rfl, by show SV.box 0 (.agg [_, .lit (.int .i64 (IntKind.i64.wrap (IntKind.i64.wrap (10 * (i : Int)) + 1))), _, _, _, _]) = _; rw [eat]; rfl, rfl, trivial⟩, ⟨rfl, trivial, trivial, trivial⟩, rfl⟩, ?_⟩
    rintro ⟨j, hj⟩
    have hk3 : k % 3 < 3 := Nat.mod_lt _ (by decide)
    refine ⟨by decide, ?_⟩
    refine ⟨fun h => ?_, fun h => ?_⟩
    · have h : j < k % 3 := by
        have h : (j : Int) < Int.tmod (k : Int) 3 := of_decide_eq_true h
        rw [show Int.tmod (k : Int) 3 = ((k % 3 : Nat) : Int) from rfl] at h; omega
      have E1 : IntKind.i64.wrap (3 + IntKind.i64.wrap (5 * (j : Int))) = ((3 + 5 * j : Nat) : Int) := by
        rw [show (5 : Int) * (j : Int) = ((5 * j : Nat) : Int) by omega, wrap_nat (by omega), show (3 : Int) + ((5 * j : Nat) : Int) = ((3 + 5 * j : Nat) : Int) by omega, wrap_nat (by omega)]
      have E2 : IntKind.i64.wrap ((i : Int) + 1) = ((i + 1 : Nat) : Int) := wrap_succ (by omega)
      have E3 : IntKind.i64.wrap (3 + (j : Int)) = ((3 + j : Nat) : Int) := by
        rw [show (3 : Int) + (j : Int) = ((3 + j : Nat) : Int) by omega, wrap_nat (by omega)]
      have A1 : Int.tmod (IntKind.i64.wrap (Int.tdiv (k : Int) (IntKind.i64.wrap (3 + IntKind.i64.wrap (5 * (j : Int)))))) (IntKind.i64.wrap ((i : Int) + 1)) = ((k / (3 + 5 * j) % (i + 1) : Nat) : Int) := by rw [E1, E2, wdiv hkl]; rfl
      have A2 : Int.tmod (IntKind.i64.wrap (Int.tdiv (k : Int) (IntKind.i64.wrap (3 + (j : Int))))) 5 = ((k / (3 + j) % 5 : Nat) : Int) := by rw [E3, wdiv hkl]; rfl
      have hat := atE_lt hi5 k j
      refine ⟨by rw [E1]; omega, ?_⟩
      refine ⟨by rw [E2]; omega, ?_⟩
      refine ⟨by decide, ?_⟩
      by_cases h7 : k % 7 = 6
      · refine ⟨fun h7' => ?_, fun h7' => ?_⟩
        rotate_left
        · exfalso
          have h7' : ¬ Int.tmod (k : Int) 7 = 6 := of_decide_eq_false h7'
          rw [show Int.tmod (k : Int) 7 = ((k % 7 : Nat) : Int) from rfl] at h7'; omega
        have ea : atE i k j = k / (3 + j) % 5 := if_pos h7
        have A2' := A2; rw [← ea] at A2'
        refine ⟨by rw [E3]; omega, ?_⟩
        refine ⟨by decide, ?_⟩
        refine ⟨fun hlt => ?_, fun hlt => ?_⟩
        · refine ⟨by decide, ?_⟩
          refine ⟨fun h7' => ?_, fun h7' => ?_⟩
          rotate_left
          · exfalso
            have h7' : ¬ Int.tmod (k : Int) 7 = 6 := of_decide_eq_false h7'
            rw [show Int.tmod (k : Int) 7 = ((k % 7 : Nat) : Int) from rfl] at h7'; omega
          refine ⟨_, by rw [A2]; omega, nm5_at A2' hat, rfl, ?_⟩
          refine ⟨by have := spsE_len i k j; show (eSs (spsE i k j)).length + 1 ≤ 4294967296; simp [eSs]; omega, uniS _, uni1 rfl, ?_⟩
          refine ⟨by kernel_rfl, ?_⟩
          refine ⟨⟨j + 1, h⟩, (show k % 3 - (j + 1) < k % 3 - j by omega), ⟨rfl, rfl, rfl, rfl, rfl, rfl, rfl, ?_, svc (wrap_succ (k := j) (by omega)), trivial⟩, ⟨rfl, rfl, rfl, trivial⟩, rfl⟩
          show SV.box 0 (.agg [_, _, _, _, .sl (eSs (spsE i k j) ++ [.lit (.string (nm5 (atE i k j)))]), _]) = _
          rw [show eSs (spsE i k j) ++ [.lit (.string (nm5 (atE i k j)))] = eSs (spsE i k (j + 1)) by rw [spsE, supE, if_pos (Or.inr h7)]; simp [eSs]]
          rfl
        · skip
          refine ⟨_, by rw [A2]; omega, nm5_at A2' hat, rfl, ?_⟩
          refine ⟨by have := spsE_len i k j; show (eSs (spsE i k j)).length + 1 ≤ 4294967296; simp [eSs]; omega, uniS _, uni1 rfl, ?_⟩
          refine ⟨by kernel_rfl, ?_⟩
          refine ⟨⟨j + 1, h⟩, (show k % 3 - (j + 1) < k % 3 - j by omega), ⟨rfl, rfl, rfl, rfl, rfl, rfl, rfl, ?_, svc (wrap_succ (k := j) (by omega)), trivial⟩, ⟨rfl, rfl, rfl, trivial⟩, rfl⟩
          show SV.box 0 (.agg [_, _, _, _, .sl (eSs (spsE i k j) ++ [.lit (.string (nm5 (atE i k j)))]), _]) = _
          rw [show eSs (spsE i k j) ++ [.lit (.string (nm5 (atE i k j)))] = eSs (spsE i k (j + 1)) by rw [spsE, supE, if_pos (Or.inr h7)]; simp [eSs]]
          rfl
      · refine ⟨fun h7' => ?_, fun h7' => ?_⟩
        · exfalso
          have h7' : Int.tmod (k : Int) 7 = 6 := of_decide_eq_true h7'
          rw [show Int.tmod (k : Int) 7 = ((k % 7 : Nat) : Int) from rfl] at h7'; omega
        have ea : atE i k j = k / (3 + 5 * j) % (i + 1) := if_neg h7
        have A1' := A1; rw [← ea] at A1'
        refine ⟨fun hlt => ?_, fun hlt => ?_⟩
        · have hlt : ¬ atE i k j < i := by
            have hlt := of_decide_eq_false hlt
            have hlt : ¬ Int.tmod (IntKind.i64.wrap (Int.tdiv (k : Int) (IntKind.i64.wrap (3 + IntKind.i64.wrap (5 * (j : Int)))))) (IntKind.i64.wrap ((i : Int) + 1)) < (i : Int) := hlt
            rw [A1'] at hlt; omega
          refine ⟨by decide, ?_⟩
          refine ⟨fun h7' => ?_, fun h7' => ?_⟩
          · exfalso
            have h7' : Int.tmod (k : Int) 7 = 6 := of_decide_eq_true h7'
            rw [show Int.tmod (k : Int) 7 = ((k % 7 : Nat) : Int) from rfl] at h7'; omega
          refine ⟨⟨j + 1, h⟩, (show k % 3 - (j + 1) < k % 3 - j by omega), ⟨rfl, rfl, rfl, rfl, rfl, rfl, rfl, ?_, svc (wrap_succ (k := j) (by omega)), trivial⟩, ⟨rfl, rfl, rfl, trivial⟩, rfl⟩
          show SV.box 0 (eCl (mkCl i k j 0)) = SV.box 0 (eCl (mkCl i k (j + 1) 0))
          unfold mkCl
          rw [spsE, supE, if_neg (fun h => h.elim hlt h7), List.append_nil]
        · have hlt : atE i k j < i := by
            have hlt := of_decide_eq_true hlt
            have hlt : Int.tmod (IntKind.i64.wrap (Int.tdiv (k : Int) (IntKind.i64.wrap (3 + IntKind.i64.wrap (5 * (j : Int)))))) (IntKind.i64.wrap ((i : Int) + 1)) < (i : Int) := hlt
            rw [A1'] at hlt; omega
          refine ⟨_, by rw [A1]; omega, nm5_at A1' hat, rfl, ?_⟩
          refine ⟨by have := spsE_len i k j; show (eSs (spsE i k j)).length + 1 ≤ 4294967296; simp [eSs]; omega, uniS _, uni1 rfl, ?_⟩
          refine ⟨by kernel_rfl, ?_⟩
          refine ⟨⟨j + 1, h⟩, (show k % 3 - (j + 1) < k % 3 - j by omega), ⟨rfl, rfl, rfl, rfl, rfl, rfl, rfl, ?_, svc (wrap_succ (k := j) (by omega)), trivial⟩, ⟨rfl, rfl, rfl, trivial⟩, rfl⟩
          show SV.box 0 (.agg [_, _, _, _, .sl (eSs (spsE i k j) ++ [.lit (.string (nm5 (atE i k j)))]), _]) = _
          rw [show eSs (spsE i k j) ++ [.lit (.string (nm5 (atE i k j)))] = eSs (spsE i k (j + 1)) by rw [spsE, supE, if_pos (Or.inl hlt)]; simp [eSs]]
          rfl
    · have h : j = k % 3 := by
        have h : ¬ (j : Int) < Int.tmod (k : Int) 3 := of_decide_eq_false h
        rw [show Int.tmod (k : Int) 3 = ((k % 3 : Nat) : Int) from rfl] at h; omega
      subst h
      have M1 : Int.tmod (IntKind.i64.wrap (Int.tdiv (k : Int) 9)) 3 = ((k / 9 % 3 : Nat) : Int) := by
        have := wdiv (k := k) (d := 9) hkl
        rw [show ((9 : Nat) : Int) = 9 from rfl] at this
        rw [this]; rfl
      refine ⟨{j : Nat // j ≤ k / 9 % 3}, fun j => { vs := [(0, .v (.sl (eIs m))), (2, .box 0 (eProg [] [])), (3, .v (.sl (eSs nms5))), (5, .box 0 (eProg (csE m i) [])), (6, sv (n : Nat)), (7, sv (i : Nat)), (8, sv (k : Nat)), (9, .box 0 (eCl (mkCl i k (k % 3) j.1))), (12, sv (j.1 : Nat))], ow := [(5, 1, 7), (9, 5, 10)] },
        fun j => k / 9 % 3 - j.1, ⟨0, Nat.zero_le _⟩, ⟨⟨rfl, rfl, rfl, rfl, rfl, rfl, rfl, rfl, rfl, trivial⟩, ⟨rfl, rfl, trivial⟩, rfl⟩, ?_⟩
      rintro ⟨j, hj⟩
      have hk9 : k / 9 % 3 < 3 := Nat.mod_lt _ (by decide)
      refine ⟨by decide, ?_⟩
      refine ⟨by decide, ?_⟩
      refine ⟨fun h => ?_, fun h => ?_⟩
      · have h : j < k / 9 % 3 := by
          have h := of_decide_eq_true h
          have h : (j : Int) < Int.tmod (IntKind.i64.wrap (Int.tdiv (k : Int) 9)) 3 := h
          rw [M1] at h; omega
        have M2 : Int.tmod (IntKind.i64.wrap (IntKind.i64.wrap ((i : Int) * 2) + (j : Int))) 5 = (((i * 2 + j) % 5 : Nat) : Int) := by
          rw [show (i : Int) * 2 = ((i * 2 : Nat) : Int) by omega, wrap_nat (by omega), show ((i * 2 : Nat) : Int) + (j : Int) = ((i * 2 + j : Nat) : Int) by omega, wrap_nat (by omega)]; rfl
        have M3 : IntKind.i64.wrap (IntKind.i64.wrap (IntKind.i64.wrap (10 * (i : Int)) + 2) + (j : Int)) = ((10 * i + 2 + j : Nat) : Int) := by
          rw [show (10 : Int) * (i : Int) = ((10 * i : Nat) : Int) by omega, wrap_nat (by omega), show ((10 * i : Nat) : Int) + 2 = ((10 * i + 2 : Nat) : Int) by omega, wrap_nat (by omega), show ((10 * i + 2 : Nat) : Int) + (j : Int) = ((10 * i + 2 + j : Nat) : Int) by omega, wrap_nat (by omega)]
        have hm5 : (i * 2 + j) % 5 < 5 := Nat.mod_lt _ (by decide)
        refine ⟨by decide, ?_⟩
        refine ⟨_, by rw [M2]; omega, nm5_at M2 hm5, rfl, ?_⟩
        refine ⟨by show 1 + (nm5 _).size ≤ _; rw [nm5_sz hm5]; omega, ?_⟩
        refine ⟨by have := sgsE_len i j; show (eSgs (sgsE i j)).length + 1 ≤ 4294967296; simp [eSgs]; omega, uniSg _, uni1 rfl, ?_⟩
        refine ⟨by kernel_rfl, ?_⟩
        refine ⟨⟨j + 1, h⟩, (show k / 9 % 3 - (j + 1) < k / 9 % 3 - j by omega), ⟨rfl, rfl, rfl, rfl, rfl, rfl, rfl, ?_, svc (wrap_succ (k := j) (by omega)), trivial⟩, ⟨rfl, rfl, trivial⟩, rfl⟩
        show SV.box 0 (.agg [_, _, _, _, _, .sl (eSgs (sgsE i j) ++ [.agg [.lit (.string (⟨#[109]⟩ ++ nm5 ((i * 2 + j) % 5))), .lit (.int .i64 (IntKind.i64.wrap (IntKind.i64.wrap (IntKind.i64.wrap (10 * (i : Int)) + 2) + (j : Int)))), .sl [], .sl [], .sl [], .lit (.int .i64 0), .lit (.int .i64 0), .lit (.string .empty), .sl []]])]) = _
        rw [M3]
        rw [show eSgs (sgsE i j) ++ [.agg [.lit (.string (⟨#[109]⟩ ++ nm5 ((i * 2 + j) % 5))), .lit (.int .i64 ((10 * i + 2 + j : Nat) : Int)), .sl [], .sl [], .sl [], .lit (.int .i64 0), .lit (.int .i64 0), .lit (.string .empty), .sl []]] = eSgs (sgsE i (j + 1)) by rw [sgsE]; simp [eSgs, eSg, sgE]]
        rfl
      · have h : j = k / 9 % 3 := by
          have h := of_decide_eq_false h
          have h : ¬ (j : Int) < Int.tmod (IntKind.i64.wrap (Int.tdiv (k : Int) 9)) 3 := h
          rw [M1] at h; omega
        subst h
        refine ⟨by show (eCls (csE m i)).length + 1 ≤ 4294967296; simp [eCls, csE_len]; omega, uniCl _, uni1 rfl, ?_⟩
        refine ⟨⟨i + 1, hi6⟩, (show n % 6 - (i + 1) < n % 6 - i by omega), ⟨rfl, rfl, rfl, ?_, rfl, svc (wrap_succ (k := i) (by omega)), trivial⟩, ⟨rfl, trivial⟩, rfl⟩
        show SV.box 0 (.agg [_, .sl (eCls (csE m i) ++ [eCl (mkCl i k (k % 3) (k / 9 % 3))]), _, _]) = SV.box 0 (eProg (csE m (i + 1)) [])
        rw [hcs]
        rw [show eCls (csE m i) ++ [eCl (mkCl i k (k % 3) (k / 9 % 3))] = eCls (csE m i ++ [mkCl i k (k % 3) (k / 9 % 3)]) by simp [eCls]]
        rfl
  · have h : i = n % 6 := by
      have h : ¬ (i : Int) < Int.tmod (n : Int) 6 := of_decide_eq_false h
      rw [show Int.tmod (n : Int) 6 = ((n % 6 : Nat) : Int) from rfl] at h; omega
    subst h
    refine ⟨Unit, fun _ => { vs := [(2, .box 0 (eProg [] [])), (5, .box 0 (eProg (csE m (n % 6)) [])), (0, .v (.sl (eIs m))), (6, sv (n : Nat)), (13, sv 6)] }, fun _ => 0, (), ⟨⟨rfl, rfl, rfl, rfl, rfl, trivial⟩, trivial, rfl⟩, ?_⟩
    rintro ⟨⟩
    refine ⟨fun hbs => ?_, fun hbs => ?_⟩ <;> first | (exfalso; revert hbs; (simp); done) | skip
    refine ⟨fun hbs => ?_, fun hbs => ?_⟩ <;> first | (exfalso; revert hbs; (simp [eIs]; omega); done) | skip
    refine ⟨by decide, ?_⟩
    refine ⟨by decide, ?_⟩
    refine ⟨fun h => ?_, fun h => ?_⟩
    · refine .inl ⟨_, whole0_ok _, ?_⟩
      exact rfl
    · exact rfl
end Go.Proofs.YtkhnjmbgkakngaaGreatDoor

namespace Go.Proofs.YtkhnjmbgkakngaaGreatDoor
open Go Fp
set_option maxRecDepth 10000
set_option maxHeartbeats 8000000
set_option linter.unusedVariables false
set_option linter.unusedSimpArgs false

structure PkQ (m : List Int) (i r : Nat) : Prop where
  lt : r < 100000
  ok : ACall Tryz.prog n_fugueref12_pick [.sl (eIs m), .lit (.int .i64 (i : Nat))] (.lit (.int .i64 (r : Nat)))
noncomputable def pw (m : List Int) (i : Nat) : Nat := Classical.epsilon (PkQ m i)
theorem pw_ok {m : List Int} (hl : m.length < 9223372036854775808) (hr : ∀ x ∈ m, InR x) (i : Nat) : PkQ m i (pw m i) := Classical.epsilon_spec (by
  obtain ⟨r, h1, h2⟩ := pick12_ok hl hr i
  exact ⟨r, h1, h2⟩)
abbrev cons4 : List ByteArray := [sInt, sBool, sL, sP]
def cn4 (i : Nat) : ByteArray := cons4.getD i .empty
theorem cn4_at {i : Nat} {x : Int} (h : x = (i : Nat)) (hi : i < 4) : (eSs cons4)[x.toNat]? = some (.lit (.string (cn4 i))) := by
  subst h
  match i, hi with
  | 0, _ | 1, _ | 2, _ | 3, _ => rfl
  | n + 4, h => omega
def kkE (k : Nat) : Nat → Nat
  | 0 => k / 20
  | j + 1 => kkE k j / 15
def pr1 (kk : Nat) (v : ByteArray) : Nat → List PR
  | 0 => []
  | m + 1 => pr1 kk v m ++ [⟨nm5 ((kk / 3 + m) % 5), .var v⟩]
def prsE (k : Nat) (vs : List ByteArray) : Nat → List PR
  | 0 => []
  | j + 1 => prsE k vs j ++ pr1 (kkE k j) (vs.getD j .empty) (kkE k j % 3)
def mkIn (k i : Nat) (n : Nat) : In := ⟨nm5 (k % 5), ((100 + i : Nat) : Int), cn4 (k / 5 % 4), varsOf (cn4 (k / 5 % 4)), prsE k (varsOf (cn4 (k / 5 % 4))) n⟩
def subI (x : In) (c : ByteArray) (j : Nat) : In := ⟨c, x.at_ + (20 * j : Nat), x.con, x.vars, x.prs⟩
def insJ (is : List In) (x : In) (up : List ByteArray) : Nat → List In
  | 0 => is
  | j + 1 => if (instI (insJ is x up j) (up.getD j .empty) x.con).isSome = true then insJ is x up j else insJ is x up j ++ [subI x (up.getD j .empty) j]
def upE (cs : List Cl) (s : ByteArray) : List ByteArray := abv cs (cs.length + 1) s []
noncomputable def fullI (l : List Int) (t : Nat) : In := mkIn (pw l (6 + t)) (6 + t) (varsOf (cn4 (pw l (6 + t) / 5 % 4))).length
noncomputable def isE (l : List Int) (cs : List Cl) : Nat → List In
  | 0 => []
  | t + 1 => insJ (isE l cs t) (fullI l t) (upE cs (fullI l t).cls) (upE cs (fullI l t).cls).length
theorem varsOf_len (s : ByteArray) : (varsOf s).length ≤ 2 := by unfold varsOf; split; decide; split <;> decide
theorem pr1_len (kk : Nat) (v : ByteArray) : ∀ m, (pr1 kk v m).length = m
  | 0 => rfl
  | m + 1 => by rw [pr1, List.length_append, pr1_len kk v m]; rfl
theorem prsE_len (k : Nat) (vs : List ByteArray) : ∀ j, (prsE k vs j).length ≤ 2 * j
  | 0 => by simp [prsE]
  | j + 1 => by
    have := prsE_len k vs j
    have := Nat.mod_lt (kkE k j) (show 0 < 3 by decide)
    rw [prsE, List.length_append, pr1_len]; omega
theorem pr1_var {kk : Nat} {v : ByteArray} : ∀ {m} {q : PR}, q ∈ pr1 kk v m → q.ty = .var v
  | 0, q, h => by simp [pr1] at h
  | m + 1, q, h => by
    rw [pr1] at h
    rcases List.mem_append.1 h with h | h
    · exact pr1_var h
    · simp at h; rw [h]
theorem prsE_var {k : Nat} {vs : List ByteArray} : ∀ {j}, j ≤ vs.length → ∀ {q : PR}, q ∈ prsE k vs j → ∃ s ∈ vs, q.ty = .var s
  | 0, _, q, h => by simp [prsE] at h
  | j + 1, hj, q, h => by
    rw [prsE] at h
    rcases List.mem_append.1 h with h | h
    · exact prsE_var (by omega) h
    · exact ⟨vs.getD j .empty, by rw [List.getD_eq_getElem?_getD, List.getElem?_eq_getElem (by omega)]; exact List.getElem_mem _, pr1_var h⟩
/-- An instance of a small world. -/
structure SmlI (y : In) : Prop where
  win : WIn y
  few : y.prs.length ≤ 4
theorem fullI_sml (l : List Int) (t : Nat) : SmlI (fullI l t) := by
  have h1 := varsOf_len (cn4 (pw l (6 + t) / 5 % 4))
  have h2 := prsE_len (pw l (6 + t)) (varsOf (cn4 (pw l (6 + t) / 5 % 4))) (varsOf (cn4 (pw l (6 + t) / 5 % 4))).length
  refine ⟨⟨⟨fun q hq => ?_, ?_, ?_⟩, fun q hq => prsE_var (Nat.le_refl _) hq⟩, ?_⟩
  · obtain ⟨s, _, e⟩ := prsE_var (Nat.le_refl _) hq
    rw [e]; exact trivial
  · show (prsE _ _ _).length < _; omega
  · show (varsOf _).length < _; omega
  · show (prsE _ _ _).length ≤ _; omega
theorem subI_sml {x : In} (h : SmlI x) (c : ByteArray) (j : Nat) : SmlI (subI x c j) := ⟨⟨⟨h.win.ok.plain, h.win.ok.few, h.win.ok.vars⟩, h.win.var⟩, h.few⟩
theorem insJ_ok {is : List In} {x : In} {up : List ByteArray} (his : ∀ y ∈ is, SmlI y) (hx : SmlI x) : ∀ j, (∀ y ∈ insJ is x up j, SmlI y) ∧ (insJ is x up j).length ≤ is.length + j
  | 0 => ⟨his, Nat.le_refl _⟩
  | j + 1 => by
    obtain ⟨h1, h2⟩ := insJ_ok (up := up) his hx j
    rw [insJ]
    split
    · exact ⟨h1, by omega⟩
    · refine ⟨fun y hy => ?_, by rw [List.length_append]; simp; omega⟩
      rcases List.mem_append.1 hy with hy | hy
      · exact h1 y hy
      · simp at hy; subst hy; exact subI_sml hx _ _
theorem upE_len (cs : List Cl) (s : ByteArray) : (upE cs s).length ≤ cs.length := few_lt (abv_few cs _ s [] (by unfold FewU unseen; simp; exact List.length_filter_le _ _))
theorem isE_ok (l : List Int) (cs : List Cl) : ∀ t, (∀ y ∈ isE l cs t, SmlI y) ∧ (isE l cs t).length ≤ t * cs.length
  | 0 => ⟨fun y hy => by simp [isE] at hy, by simp [isE]⟩
  | t + 1 => by
    obtain ⟨h1, h2⟩ := isE_ok l cs t
    obtain ⟨h3, h4⟩ := insJ_ok (up := upE cs (fullI l t).cls) h1 (fullI_sml l t) (upE cs (fullI l t).cls).length
    refine ⟨h3, ?_⟩
    have := upE_len cs (fullI l t).cls
    rw [isE, Nat.add_mul]; omega
end Go.Proofs.YtkhnjmbgkakngaaGreatDoor
