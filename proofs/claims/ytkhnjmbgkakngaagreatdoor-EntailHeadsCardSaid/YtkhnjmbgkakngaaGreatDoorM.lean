/- Worlds, made by the document: the walk. -/
import Derived.Test.YtkhnjmbgkakngaaGreatDoorL
set_option linter.unusedSimpArgs false
set_option linter.unusedVariables false
namespace Go.Proofs.YtkhnjmbgkakngaaGreatDoor
open Go Fp
set_option maxRecDepth 10000
set_option maxHeartbeats 8000000
set_option linter.unusedVariables false
set_option linter.unusedSimpArgs false

theorem getD_at {vs : List ByteArray} {j : Nat} (h : j < vs.length) : (eSs vs)[j]? = some (.lit (.string (vs.getD j .empty))) := by
  rw [getS h, List.getD_eq_getElem?_getD, List.getElem?_eq_getElem h]; rfl
theorem wdivN {k d : Nat} (hk : k < 100000) : IntKind.i64.wrap (Int.tdiv (k : Int) (d : Nat)) = ((k / d : Nat) : Int) := wdiv (by omega)
theorem world_ok {l : List Int} (hl : l.length < 9223372036854775808) (hr : ∀ x ∈ l, InR x) : ∃ cs is, cs = csE (l.take 6) (pk (l.take 6) 0 % 6) ∧ is = isE l cs (min 16 l.length - 6) ∧ ACall Tryz.prog n_fugueref12_World [.sl (eIs l)] (eProg cs is) := by
  have hI := ints_ok (l := l) (n := 6) (by omega) (by decide)
  have hM := made_ok (m := l.take 6) (by rw [List.length_take]; omega) (fun x hx => hr x (List.mem_of_mem_take hx))
  obtain ⟨cs, hcs⟩ : ∃ cs, cs = csE (l.take 6) (pk (l.take 6) 0 % 6) := ⟨_, rfl⟩
  rw [← hcs] at hM
  refine ⟨cs, _, hcs, rfl, ?_⟩
  have hcl : cs.length ≤ 5 := by rw [hcs, csE_len]; have := Nat.mod_lt (pk (l.take 6) 0) (show 0 < 6 by decide); omega
  have hsup : ∀ c ∈ cs, c.sup.length < 1000 := fun c hc => by rw [hcs] at hc; have := (csE_mem hc).1; omega
  clear hcs
  generalize hT : min 16 l.length - 6 = T
  have hT10 : T ≤ 10 := by omega
  refine acall_of_wcx ttok mixed Tryz.func5 rfl (by rfl) (Nat.le_of_ble_eq_true rfl) (by kernel_rfl) ?_
  refine .inl ⟨_, names_ok, ?_⟩
  refine .inl ⟨_, hI, ?_⟩
  refine .inl ⟨_, hM, ?_⟩
  refine ⟨{t : Nat // t ≤ T}, fun t => { vs := [(0, .v (.sl (eIs l))), (2, .box 0 (eProg [] [])), (3, .v (.sl (eSs nms5))), (5, .v (.sl (eSs cons4))), (6, .box 0 (eProg cs (isE l cs t.1))), (7, sv ((6 + t.1 : Nat) : Int))], ow := [(6, 2, 7)] },
    fun t => T - t.1, ⟨0, Nat.zero_le _⟩, ⟨⟨rfl, rfl, rfl, rfl, rfl, rfl, trivial⟩, ⟨trivial, trivial⟩, rfl⟩, ?_⟩
  rintro ⟨t, ht⟩
  have fin : ¬ t < T → isE l cs t = isE l cs T := fun h => by rw [show t = T by omega]
  refine ⟨fun h16 => ?_, fun h16 => ?_⟩
  rotate_left
  · have h16 : ¬ ((6 + t : Nat) : Int) < 16 := of_decide_eq_false h16
    rw [← fin (by omega)]
    exact rfl
  have h16 : ((6 + t : Nat) : Int) < 16 := of_decide_eq_true h16
  refine ⟨fun h => ?_, fun h => ?_⟩
  rotate_left
  · have h : ¬ ((6 + t : Nat) : Int) < ((eIs l).length : Nat) := of_decide_eq_false h
    rw [show (eIs l).length = l.length by simp [eIs]] at h
    rw [← fin (by omega)]
    exact rfl
  have h : ((6 + t : Nat) : Int) < ((eIs l).length : Nat) := of_decide_eq_true h
  rw [show (eIs l).length = l.length by simp [eIs]] at h
  have htT : t < T := by omega
  have hfull : isE l cs (t + 1) = insJ (isE l cs t) (mkIn (pw l (6 + t)) (6 + t) (varsOf (cn4 (pw l (6 + t) / 5 % 4))).length) (upE cs (nm5 (pw l (6 + t) % 5))) (upE cs (nm5 (pw l (6 + t) % 5))).length := rfl
  have hil : (isE l cs t).length ≤ 50 := by
    have h1 := (isE_ok l cs t).2
    have h2 : t * cs.length ≤ 10 * 5 := Nat.mul_le_mul (by omega) hcl
    omega
  have hq := (pw_ok hl hr (6 + t)).ok
  have hk := (pw_ok hl hr (6 + t)).lt
  revert hq hk hfull
  generalize pw l (6 + t) = k
  intro hfull hq hk
  generalize isE l cs t = IS at hil hfull
  refine .inl ⟨_, hq, ?_⟩
  have hk5 : k % 5 < 5 := Nat.mod_lt _ (by decide)
  have hk4 : k / 5 % 4 < 4 := Nat.mod_lt _ (by decide)
  have K5 : IntKind.i64.wrap (Int.tdiv (k : Int) 5) = ((k / 5 : Nat) : Int) := wdivN (d := 5) hk
  have C4 : Int.tmod (IntKind.i64.wrap (Int.tdiv (k : Int) 5)) 4 = ((k / 5 % 4 : Nat) : Int) := by rw [K5]; rfl
  have A100 : IntKind.i64.wrap (100 + ((6 + t : Nat) : Int)) = ((100 + (6 + t) : Nat) : Int) := by rw [show (100 : Int) + ((6 + t : Nat) : Int) = ((100 + (6 + t) : Nat) : Int) by omega, wrap_nat (by omega)]
  have K20 : IntKind.i64.wrap (Int.tdiv (k : Int) 20) = ((k / 20 : Nat) : Int) := wdivN (d := 20) hk
  refine ⟨by decide, ?_⟩
  refine ⟨_, (show (0 : Int) ≤ ((k % 5 : Nat) : Int) by omega), nm5_at rfl hk5, rfl, ?_⟩
  refine ⟨by decide, ?_⟩
  refine ⟨by decide, ?_⟩
  refine ⟨_, by rw [C4]; omega, cn4_at C4 hk4, rfl, ?_⟩
  refine ⟨by kernel_rfl, ?_⟩
  have hV := vars_ok (cn4 (k / 5 % 4))
  have hvl := varsOf_len (cn4 (k / 5 % 4))
  have hmk : ∀ j, mkIn k (6 + t) j = ⟨nm5 (k % 5), ((100 + (6 + t) : Nat) : Int), cn4 (k / 5 % 4), varsOf (cn4 (k / 5 % 4)), prsE k (varsOf (cn4 (k / 5 % 4))) j⟩ := fun j => rfl
  revert hV hvl hfull hmk
  generalize cn4 (k / 5 % 4) = cn
  generalize varsOf cn = vs
  intro hfull hV hvl hmk
  rw [hmk] at hfull
  refine .inl ⟨_, hV, ?_⟩
  refine ⟨by decide, ?_⟩
  refine ⟨{j : Nat // j ≤ vs.length}, fun j => { vs := [(0, .v (.sl (eIs l))), (2, .box 0 (eProg [] [])), (3, .v (.sl (eSs nms5))), (5, .v (.sl (eSs cons4))), (6, .box 0 (eProg cs IS)), (7, sv ((6 + t : Nat) : Int)), (8, sv (kkE k j.1 : Nat)), (9, .box 0 (eIn ⟨nm5 (k % 5), ((100 + (6 + t) : Nat) : Int), cn, vs, prsE k vs j.1⟩)), (10, sv (j.1 : Nat))], ow := [(6, 2, 7), (9, 4, 6)] },
    fun j => vs.length - j.1, ⟨0, Nat.zero_le _⟩, ⟨⟨rfl, rfl, rfl, rfl, rfl, rfl, svc K20, by show SV.box 0 (.agg [_, .lit (.int .i64 (IntKind.i64.wrap (100 + ((6 + t : Nat) : Int)))), _, _, _, _]) = _; rw [A100]; rfl, rfl, trivial⟩, ⟨rfl, trivial, trivial⟩, rfl⟩, ?_⟩
  rintro ⟨j, hj⟩
  have hkk : kkE k j < 100000 := by
    have : ∀ j, kkE k j ≤ k := fun j => by
      induction j with
      | zero => exact Nat.div_le_self _ _
      | succ j ih => exact Nat.le_trans (Nat.div_le_self _ _) ih
    have := this j; omega
  refine ⟨fun h2 => ?_, fun h2 => ?_⟩
  · have h2 : j < vs.length := by have h : (j : Int) < ((eSs vs).length : Nat) := of_decide_eq_true h2; simp [eSs] at h; omega
    have hprs : prsE k vs (j + 1) = prsE k vs j ++ pr1 (kkE k j) (vs.getD j .empty) (kkE k j % 3) := rfl
    have hkk1 : kkE k (j + 1) = kkE k j / 15 := rfl
    have hpl := prsE_len k vs j
    revert hprs hkk1 hkk hpl
    generalize kkE k j = kk
    generalize prsE k vs j = ps
    intro hkk hprs hkk1 hpl
    have hk3 : kk % 3 < 3 := Nat.mod_lt _ (by decide)
    refine ⟨{m : Nat // m ≤ kk % 3}, fun m => { vs := [(0, .v (.sl (eIs l))), (2, .box 0 (eProg [] [])), (3, .v (.sl (eSs nms5))), (5, .v (.sl (eSs cons4))), (6, .box 0 (eProg cs IS)), (7, sv ((6 + t : Nat) : Int)), (8, sv (kk : Nat)), (9, .box 0 (eIn ⟨nm5 (k % 5), ((100 + (6 + t) : Nat) : Int), cn, vs, ps ++ pr1 kk (vs.getD j .empty) m.1⟩)), (10, sv (j : Nat)), (11, sv (m.1 : Nat))], ow := [(6, 2, 7), (9, 4, 6)] },
      fun m => kk % 3 - m.1, ⟨0, Nat.zero_le _⟩, ⟨⟨rfl, rfl, rfl, rfl, rfl, rfl, rfl, by show _ = SV.box 0 (eIn ⟨_, _, _, _, ps ++ []⟩); rw [List.append_nil]; rfl, rfl, rfl, trivial⟩, ⟨rfl, rfl, trivial⟩, rfl⟩, ?_⟩
    rintro ⟨m, hm⟩
    have hml := pr1_len kk (vs.getD j .empty) m
    refine ⟨by decide, ?_⟩
    refine ⟨fun h3 => ?_, fun h3 => ?_⟩
    · have h3 : m < kk % 3 := by
        have h : (m : Int) < Int.tmod (kk : Int) 3 := of_decide_eq_true h3
        rw [show Int.tmod (kk : Int) 3 = ((kk % 3 : Nat) : Int) from rfl] at h; omega
      have P1 : Int.tmod (IntKind.i64.wrap (IntKind.i64.wrap (Int.tdiv (kk : Int) 3) + (m : Int))) 5 = (((kk / 3 + m) % 5 : Nat) : Int) := by
        have := wdivN (k := kk) (d := 3) hkk
        rw [show ((3 : Nat) : Int) = 3 from rfl] at this
        rw [this, show ((kk / 3 : Nat) : Int) + (m : Int) = ((kk / 3 + m : Nat) : Int) by omega, wrap_nat (by omega)]; rfl
      have hp5 : (kk / 3 + m) % 5 < 5 := Nat.mod_lt _ (by decide)
      refine ⟨by decide, ?_⟩
      refine ⟨by decide, ?_⟩
      refine ⟨_, by rw [P1]; omega, nm5_at P1 hp5, rfl, ?_⟩
      refine ⟨_, by omega, getD_at h2, rfl, ?_⟩
      refine ⟨by show (ePrs (ps ++ pr1 kk (vs.getD j .empty) m)).length + 1 ≤ 4294967296; simp only [ePrs, List.length_map, List.length_append, hml]; omega, uniPr _, uni1 rfl, ?_⟩
      refine ⟨by kernel_rfl, ?_⟩
      refine ⟨⟨m + 1, h3⟩, (show kk % 3 - (m + 1) < kk % 3 - m by omega), ⟨rfl, rfl, rfl, rfl, rfl, rfl, rfl, ?_, rfl, svc (wrap_succ (k := m) (by omega)), trivial⟩, ⟨rfl, rfl, trivial⟩, rfl⟩
      show SV.box 0 (.agg [_, _, _, _, .sl (ePrs (ps ++ pr1 kk (vs.getD j .empty) m) ++ [ePr ⟨nm5 ((kk / 3 + m) % 5), .var (vs.getD j .empty)⟩]), _]) = _
      rw [ePrs_snoc, List.append_assoc]
      rfl
    · have h3 : m = kk % 3 := by
        have h : ¬ (m : Int) < Int.tmod (kk : Int) 3 := of_decide_eq_false h3
        rw [show Int.tmod (kk : Int) 3 = ((kk % 3 : Nat) : Int) from rfl] at h; omega
      subst h3
      have K15 : IntKind.i64.wrap (Int.tdiv (kk : Int) 15) = ((kk / 15 : Nat) : Int) := wdivN (d := 15) hkk
      refine ⟨by decide, ?_⟩
      refine ⟨⟨j + 1, h2⟩, (show vs.length - (j + 1) < vs.length - j by omega), ⟨rfl, rfl, rfl, rfl, rfl, rfl, svc (by rw [K15, hkk1]), ?_, svc (wrap_succ (k := j) (by omega)), trivial⟩, ⟨rfl, rfl, trivial⟩, rfl⟩
      show _ = SV.box 0 (eIn ⟨_, _, _, _, prsE k vs (j + 1)⟩)
      rw [hprs]
      rfl
  · have h2 : j = vs.length := by have h : ¬ (j : Int) < ((eSs vs).length : Nat) := of_decide_eq_false h2; simp [eSs] at h; omega
    subst h2
    have hpl := prsE_len k vs vs.length
    revert hfull hpl
    generalize prsE k vs vs.length = ps
    intro hfull hpl
    have hu := upE_len cs (nm5 (k % 5))
    have hU := above_ok' cs IS (by omega) hsup (nm5 (k % 5))
    rw [show abv cs (cs.length + 1) (nm5 (k % 5)) [] = upE cs (nm5 (k % 5)) from rfl] at hU
    revert hu hU hfull
    generalize upE cs (nm5 (k % 5)) = up
    intro hfull hu hU
    refine .inl ⟨_, hU, ?_⟩
    obtain ⟨X, hX⟩ : ∃ X : In, X = ⟨nm5 (k % 5), ((100 + (6 + t) : Nat) : Int), cn, vs, ps⟩ := ⟨_, rfl⟩
    rw [← hX] at hfull
    refine ⟨{j : Nat // j ≤ up.length}, fun j => { vs := [(0, .v (.sl (eIs l))), (2, .box 0 (eProg [] [])), (3, .v (.sl (eSs nms5))), (5, .v (.sl (eSs cons4))), (6, .box 0 (eProg cs (insJ IS X up j.1))), (7, sv ((6 + t : Nat) : Int)), (9, .box 0 (eIn ⟨nm5 (k % 5), ((100 + (6 + t) : Nat) : Int), cn, vs, ps⟩)), (12, .v (.sl (eSs up))), (13, sv (j.1 : Nat))], ow := [(6, 2, 7)] },
      fun j => up.length - j.1, ⟨0, Nat.zero_le _⟩, ⟨⟨rfl, rfl, rfl, rfl, rfl, rfl, rfl, rfl, rfl, trivial⟩, ⟨rfl, trivial⟩, rfl⟩, ?_⟩
    rintro ⟨j, hj⟩
    refine ⟨fun h3 => ?_, fun h3 => ?_⟩
    · have h3 : j < up.length := by have h : (j : Int) < ((eSs up).length : Nat) := of_decide_eq_true h3; simp [eSs] at h; omega
      have hins : insJ IS X up (j + 1) = if (instI (insJ IS X up j) (up.getD j .empty) X.con).isSome = true then insJ IS X up j else insJ IS X up j ++ [subI X (up.getD j .empty) j] := rfl
      have hJl : (insJ IS X up j).length ≤ IS.length + j := by
        have : ∀ j, (insJ IS X up j).length ≤ IS.length + j := fun j => by
          induction j with
          | zero => exact Nat.le_refl _
          | succ j ih => rw [insJ]; split; omega; rw [List.length_append]; simp; omega
        exact this j
      revert hins hJl
      generalize insJ IS X up j = J
      intro hins hJl
      refine ⟨_, by omega, getD_at h3, rfl, ?_⟩
      have hIn := rinst_ok cs J (by omega) (up.getD j .empty) cn
      rw [hX] at hins
      simp only at hins
      revert hins hIn
      generalize instI J (up.getD j .empty) cn = o
      intro hins hIn
      refine .inl ⟨_, hIn, ?_⟩
      refine ⟨by kernel_rfl, ?_⟩
      cases o with
      | some w =>
        simp only [Option.isSome_some, if_true] at hins
        refine ⟨fun hbs => ?_, fun hbs => ?_⟩ <;> first | (exfalso; revert hbs; (simp); done) | skip
        refine ⟨⟨j + 1, h3⟩, (show up.length - (j + 1) < up.length - j by omega), ⟨rfl, rfl, rfl, rfl, ?_, rfl, rfl, rfl, svc (wrap_succ (k := j) (by omega)), trivial⟩, ⟨rfl, trivial⟩, rfl⟩
        show _ = SV.box 0 (eProg cs (insJ IS X up (j + 1)))
        rw [hX, hins]
        rfl
      | none =>
        simp only [Option.isSome_none, Bool.false_eq_true, if_false] at hins
        refine ⟨fun hbs => ?_, fun hbs => ?_⟩ <;> first | (exfalso; revert hbs; (simp); done) | skip
        have A20 : IntKind.i64.wrap (((100 + (6 + t) : Nat) : Int) + IntKind.i64.wrap (20 * (j : Int))) = ((100 + (6 + t) : Nat) : Int) + (20 * j : Nat) := by
          rw [show (20 : Int) * (j : Int) = ((20 * j : Nat) : Int) by omega, wrap_nat (by omega), wrap_in (by unfold InR; omega)]
        refine ⟨_, by omega, getD_at h3, rfl, ?_⟩
        refine ⟨by show (eIns J).length + 1 ≤ 4294967296; simp [eIns]; omega, uniIn _, uni1 rfl, ?_⟩
        refine ⟨⟨j + 1, h3⟩, (show up.length - (j + 1) < up.length - j by omega), ⟨rfl, rfl, rfl, rfl, ?_, rfl, rfl, rfl, svc (wrap_succ (k := j) (by omega)), trivial⟩, ⟨rfl, trivial⟩, rfl⟩
        have e : eIns (insJ IS X up (j + 1)) = eIns J ++ [eIn (subI ⟨nm5 (k % 5), ((100 + (6 + t) : Nat) : Int), cn, vs, ps⟩ (up.getD j .empty) j)] := by rw [hX, hins]; simp [eIns]
        show SV.box 0 (.agg [_, _, .sl (eIns J ++ [.agg [.lit (.string (up.getD j .empty)), .lit (.int .i64 (IntKind.i64.wrap (((100 + (6 + t) : Nat) : Int) + IntKind.i64.wrap (20 * (j : Int))))), _, _, _, _]]), _]) = SV.box 0 (.agg [.sl [], .sl (eCls cs), .sl (eIns (insJ IS X up (j + 1))), .sl []])
        rw [A20, e]
        rfl
    · have h3 : j = up.length := by have h : ¬ (j : Int) < ((eSs up).length : Nat) := of_decide_eq_false h3; simp [eSs] at h; omega
      subst h3
      refine ⟨⟨t + 1, htT⟩, (show T - (t + 1) < T - t by omega), ⟨rfl, rfl, rfl, rfl, ?_, svc (wrap_succ (k := 6 + t) (by omega)), trivial⟩, ⟨rfl, trivial⟩, rfl⟩
      show _ = SV.box 0 (eProg cs (isE l cs (t + 1)))
      rw [hfull]
      rfl
end Go.Proofs.YtkhnjmbgkakngaaGreatDoor

namespace Go.Proofs.YtkhnjmbgkakngaaGreatDoor
open Go Fp
set_option maxRecDepth 10000
set_option linter.unusedVariables false
set_option linter.unusedSimpArgs false

structure GoodW (cs : List Cl) (is : List In) : Prop where
  nd : (cs.map Cl.nm).Nodup
  few : cs.length ≤ 5
  sup : ∀ c ∈ cs, c.sup.length ≤ 2
  mth : ∀ c ∈ cs, c.mth.length ≤ 2
  ins : is.length ≤ 50
  sml : ∀ y ∈ is, SmlI y
theorem world_good {l : List Int} (hl : l.length < 9223372036854775808) (hr : ∀ x ∈ l, InR x) : ∃ cs is, GoodW cs is ∧ ACall Tryz.prog n_fugueref12_World [.sl (eIs l)] (eProg cs is) := by
  obtain ⟨cs, is, hcs, his, hW⟩ := world_ok hl hr
  have h6 : pk (l.take 6) 0 % 6 < 6 := Nat.mod_lt _ (by decide)
  have hlen : cs.length ≤ 5 := by rw [hcs, csE_len]; omega
  refine ⟨cs, is, ⟨?_, hlen, fun c hc => (csE_mem (hcs ▸ hc)).1, fun c hc => (csE_mem (hcs ▸ hc)).2, ?_, ?_⟩, hW⟩
  · rw [hcs, csE_nm _ _ (by omega)]
    exact nms5_nodup.sublist (List.take_sublist _ _)
  · have h1 := (isE_ok l cs (min 16 l.length - 6)).2
    have h2 : (min 16 l.length - 6) * cs.length ≤ 10 * 5 := Nat.mul_le_mul (by omega) hlen
    rw [his]; omega
  · rw [his]; exact (isE_ok l cs _).1

theorem firstI_mem {f : ByteArray → Option (List Int)} {B : Nat} (hf : ∀ y l, f y = some l → ∀ k ∈ l, ∃ n : Nat, k = (n : Int) ∧ n < B) : ∀ {xs : List ByteArray} {i : Nat} {l : List Int}, i + xs.length ≤ B → firstI f i xs = some l → ∀ k ∈ l, ∃ n : Nat, k = (n : Int) ∧ n < B
  | [], _, _, _, h => by simp [firstI] at h
  | x :: xs, i, l, hi, h => by
    rw [firstI] at h
    simp only [List.length_cons] at hi
    split at h
    · rename_i l' h'
      injection h with h; subst h
      intro k hk
      rcases List.mem_cons.1 hk with rfl | hk
      · exact ⟨i, rfl, by omega⟩
      · exact hf x l' h' k hk
    · exact firstI_mem hf (by omega) h
theorem sups_le {cs : List Cl} {B : Nat} (h : ∀ c ∈ cs, c.sup.length ≤ B) (s : ByteArray) : (sups cs s).length ≤ B := by
  unfold sups
  cases hl : lookC cs s with
  | none => simp
  | some c => exact h c (lookC_mem hl).1
theorem pathD_mem {cs : List Cl} {B : Nat} (h : ∀ c ∈ cs, c.sup.length ≤ B) (to : ByteArray) : ∀ (n : Nat) (frm : ByteArray) (l : List Int), pathD cs to n frm = some l → ∀ k ∈ l, ∃ n : Nat, k = (n : Int) ∧ n < B
  | 0, frm, l, hp => by rw [pathD] at hp; split at hp <;> simp at hp; subst hp; intro k hk; simp at hk
  | n + 1, frm, l, hp => by
    rw [pathD] at hp
    exact firstI_mem (pathD_mem h to n) (by have := sups_le h frm; omega) hp
theorem pathB_sml {cs : List Cl} {B : Nat} (h : ∀ c ∈ cs, c.sup.length ≤ B) (frm to : ByteArray) : (pathB cs frm to).2.length ≤ cs.length ∧ ∀ k ∈ (pathB cs frm to).2, ∃ n : Nat, k = (n : Int) ∧ n < B := by
  rw [pathB_eq]
  unfold pathsD
  rcases findSome_range (fun n => pathD cs to n frm) (cs.length + 1) with ⟨h1, h2⟩ | ⟨n, b, h1, h2, h3, h4⟩
  · rw [h1]; simp
  · rw [h4]
    exact ⟨by rw [Option.getD_some, pathD_len cs to n frm b h2]; omega, pathD_mem h to n frm b h2⟩

theorem args_hgt : ∀ {t : Tp}, ∀ a ∈ args t, hgt a < hgt t
  | .app x b, a, ha => by
    rw [args_app] at ha
    show hgt a < max (hgt x) (hgt b) + 1
    rcases List.mem_append.1 ha with ha | ha
    · have := args_hgt a ha; omega
    · simp at ha; subst ha; omega
  | .no, a, ha | .mt _, a, ha | .var _, a, ha | .con _, a, ha | .all _ _, a, ha => by simp [args, spAr] at ha
theorem inst_hgt {is : List In} (hy : ∀ y ∈ is, SmlI y) {x : PR} {n : Nat} {l : List PR} (h : instE is x = some (n, l)) : l.length ≤ 4 ∧ n < is.length ∧ ∀ q ∈ l, hgt q.ty < hgt x.ty := by
  unfold instE at h
  split at h
  · split at h
    · rename_i n' hn
      obtain ⟨h1, _, _⟩ := instI_lt hn
      split at h
      · rename_i y hyy
        obtain ⟨l', h2, h3⟩ := Option.map_eq_some_iff.1 h
        injection h3 with h3 h4
        subst h3; subst h4
        have hm := hy y (List.mem_of_getElem? hyy)
        unfold needsE at h2
        split at h2
        · rename_i hc
          injection h2 with h2
          subst h2
          refine ⟨by rw [List.length_map]; exact hm.few, h1, fun q hq => ?_⟩
          obtain ⟨p, hp, rfl⟩ := List.mem_map.1 hq
          obtain ⟨s, hs, e⟩ := hm.win.var p hp
          obtain ⟨a, ha, h2⟩ := look_zip (s := s) hc.2.2 hs
          have : (putP (y.vars.zip (args x.ty)) p).ty = a := by simp [putP, e, sub, h2]
          rw [this]
          exact args_hgt a ha
        · cases h2
      · cases h
    · cases h
  · cases h

theorem jn_size {B : Nat} : ∀ (l : List ByteArray), (∀ x ∈ l, x.size ≤ B) → (jn l).size ≤ l.length * (B + 2) := by
  have go : ∀ (n : Nat) (l : List ByteArray), l.length = n → (∀ x ∈ l, x.size ≤ B) → (jn l).size ≤ n * (B + 2) := fun n => by
    induction n with
    | zero => intro l hl _; rw [List.length_eq_zero_iff.1 hl]; exact Nat.zero_le _
    | succ n ih =>
      intro l hl hx
      obtain ⟨r, y, rfl⟩ : ∃ r y, l = r ++ [y] := ⟨l.dropLast, l.getLast (by intro e; simp [e] at hl), (List.dropLast_concat_getLast _).symm⟩
      simp at hl
      have h1 := ih r hl (fun x hxr => hx x (List.mem_append_left _ hxr))
      have h2 := hx y (by simp)
      rw [Nat.add_mul]
      by_cases hr : r = []
      · subst hr; rw [List.nil_append, jn_one]; omega
      · rw [jn_snoc hr]
        simp only [ByteArray.size_append]
        show _ + 2 + _ ≤ _
        omega
  exact fun l => go l.length l rfl
theorem wrapV_ok {B : Nat} {v : Ev} (hv : EvOk v) (hs : (prE v).size ≤ B) (hB : B < 100000000) : ∀ (p : List Int), (∀ k ∈ p, ∃ n : Nat, k = (n : Int) ∧ n < 100) → p.length ≤ 1000 → EvOk (wrapV v p) ∧ (prE (wrapV v p)).size ≤ B + 5 * p.length := by
  have go : ∀ (m : Nat) (p : List Int), p.length = m → (∀ k ∈ p, ∃ n : Nat, k = (n : Int) ∧ n < 100) → p.length ≤ 1000 → EvOk (wrapV v p) ∧ (prE (wrapV v p)).size ≤ B + 5 * p.length := fun m => by
    induction m with
    | zero => intro p h _ _; rw [List.length_eq_zero_iff.1 h]; exact ⟨hv, by simpa [wrapV] using hs⟩
    | succ m ih =>
      intro p h hp hl
      obtain ⟨r, k, rfl⟩ : ∃ r k, p = r ++ [k] := ⟨p.dropLast, p.getLast (by intro e; simp [e] at h), (List.dropLast_concat_getLast _).symm⟩
      obtain ⟨n, rfl, hn⟩ := hp k (by simp)
      simp at hl h
      obtain ⟨h1, h2⟩ := ih r h (fun k hk => hp k (List.mem_append_left _ hk)) (by omega)
      have e : wrapV v (r ++ [(n : Int)]) = .mk 2 (n : Int) [wrapV v r] := by unfold wrapV; rw [List.foldl_append]; rfl
      rw [e]
      refine ⟨.mk hn (by simp) (by rw [List.map_cons, List.map_nil, jn_one]; omega) (fun k hk => by simp at hk; subst hk; exact h1), ?_⟩
      rw [prE_mk, if_neg (by decide), Int.toNat_natCast, List.map_cons, List.map_nil, jn_one]
      have h5 := hdE_size (f := 2) hn
      show (hdE 2 n ++ prE (wrapV v r) ++ (⟨#[41]⟩ : ByteArray)).size ≤ _
      rw [ByteArray.size_append, ByteArray.size_append]
      show _ + _ + 1 ≤ _
      rw [List.length_append]; simp; omega
  exact fun p => go p.length p rfl
theorem byG_ok {cs : List Cl} (hc : cs.length ≤ 5) (hs : ∀ c ∈ cs, c.sup.length ≤ 2) (x : PR) : ∀ (g : List PR) (i : Nat), i + g.length ≤ 100 → ∀ v, byG cs x i g = some v → EvOk v ∧ (prE v).size ≤ 40
  | [], i, _, v, h => by simp [byG] at h
  | q :: g, i, hi, v, h => by
    rw [byG] at h
    simp only [List.length_cons] at hi
    split at h
    · injection h with h
      subst h
      obtain ⟨h1, h2⟩ := pathB_sml hs q.cls x.cls
      have hz : (prE (.mk 1 (i : Nat) [])).size ≤ 3 := by
        rw [prE_mk, if_pos rfl, Int.toNat_natCast, ByteArray.size_append]
        have := dcm_sz2 (n := i) (by omega)
        show 1 + _ ≤ _; omega
      obtain ⟨h3, h4⟩ := wrapV_ok (v := .mk 1 (i : Nat) []) (B := 3) (.mk (by omega) (by simp) (by decide) (fun k hk => by simp at hk)) hz (by decide) (pathB cs q.cls x.cls).2 (fun k hk => by obtain ⟨n, h, h'⟩ := h2 k hk; exact ⟨n, h, by omega⟩) (by omega)
      exact ⟨h3, by omega⟩
    · exact byG_ok hc hs x g (i + 1) (by omega) v h
theorem kidsO_some {f : PR → Option Ev} : ∀ {l : List PR} {ks : List Ev}, kidsO f l = some ks → ks.length = l.length ∧ ∀ k ∈ ks, ∃ q ∈ l, f q = some k
  | [], ks, h => by simp [kidsO] at h; subst h; simp
  | q :: l, ks, h => by
    rw [kidsO] at h
    split at h
    · cases h
    · rename_i v hv
      obtain ⟨ks', h1, rfl⟩ := Option.map_eq_some_iff.1 h
      obtain ⟨h2, h3⟩ := kidsO_some h1
      refine ⟨by simp [h2], fun k hk => ?_⟩
      rcases List.mem_cons.1 hk with rfl | hk
      · exact ⟨q, List.mem_cons_self, hv⟩
      · obtain ⟨q', h4, h5⟩ := h3 k hk
        exact ⟨q', List.mem_cons_of_mem _ h4, h5⟩
theorem byE_ok {cs : List Cl} {is : List In} (hc : cs.length ≤ 5) (hs : ∀ c ∈ cs, c.sup.length ≤ 2) (hi : is.length ≤ 50) (hy : ∀ y ∈ is, SmlI y) (g : List PR) (hg : g.length ≤ 100) : ∀ (h n : Nat) (x : PR) (v : Ev), hgt x.ty ≤ h → h ≤ 8 → byE cs is g n x = some v → EvOk v ∧ (prE v).size ≤ 40 * 5 ^ h := by
  intro h
  induction h with
  | zero =>
    intro n x v hx _ hv
    cases n with
    | zero => simp [byE] at hv
    | succ n =>
      rw [byE] at hv
      split at hv
      · rename_i v' hG
        injection hv with hv; subst hv
        obtain ⟨h1, h2⟩ := byG_ok hc hs x g 0 (by omega) v' hG
        exact ⟨h1, by omega⟩
      · split at hv
        · cases hv
        · rename_i k l hE
          obtain ⟨h1, h2, h3⟩ := inst_hgt hy hE
          obtain ⟨ks, h4, rfl⟩ := Option.map_eq_some_iff.1 hv
          obtain ⟨h5, h6⟩ := kidsO_some h4
          have : ks = [] := by
            cases ks with
            | nil => rfl
            | cons k r =>
              obtain ⟨q, hq, _⟩ := h6 k List.mem_cons_self
              have := h3 q hq; omega
          subst this
          refine ⟨.mk (by omega) (by simp) (by decide) (fun k hk => by simp at hk), ?_⟩
          rw [prE_mk, if_neg (by decide), Int.toNat_natCast]
          have h5 := hdE_size (f := 3) (n := k) (by omega)
          show (hdE 3 k ++ jn [] ++ (⟨#[41]⟩ : ByteArray)).size ≤ _
          rw [ByteArray.size_append, ByteArray.size_append]
          show _ + 0 + 1 ≤ _
          omega
  | succ h ih =>
    intro n x v hx h8 hv
    have hp : 1 ≤ 5 ^ h := Nat.one_le_pow _ _ (by decide)
    have hp8 : 5 ^ h ≤ 5 ^ 8 := Nat.pow_le_pow_right (by decide) (by omega)
    cases n with
    | zero => simp [byE] at hv
    | succ n =>
      rw [byE] at hv
      split at hv
      · rename_i v' hG
        injection hv with hv; subst hv
        obtain ⟨h1, h2⟩ := byG_ok hc hs x g 0 (by omega) v' hG
        exact ⟨h1, by rw [Nat.pow_succ]; omega⟩
      · split at hv
        · cases hv
        · rename_i k l hE
          obtain ⟨h1, h2, h3⟩ := inst_hgt hy hE
          obtain ⟨ks, h4, rfl⟩ := Option.map_eq_some_iff.1 hv
          obtain ⟨h5, h6⟩ := kidsO_some h4
          have hk : ∀ k ∈ ks, EvOk k ∧ (prE k).size ≤ 40 * 5 ^ h := fun k hk => by
            obtain ⟨q, hq, e⟩ := h6 k hk
            exact ih n q k (by have := h3 q hq; omega) (by omega) e
          have hj := jn_size (B := 40 * 5 ^ h) (ks.map prE) (fun x hx => by obtain ⟨k, hkm, rfl⟩ := List.mem_map.1 hx; exact (hk k hkm).2)
          rw [List.length_map] at hj
          have hj2 : ks.length * (40 * 5 ^ h + 2) ≤ 4 * (40 * 5 ^ h + 2) := Nat.mul_le_mul_right _ (by omega)
          refine ⟨.mk (by omega) (by omega) (by omega) (fun k hkm => (hk k hkm).1), ?_⟩
          rw [prE_mk, if_neg (by decide), Int.toNat_natCast]
          have h5 := hdE_size (f := 3) (n := k) (by omega)
          show (hdE 3 k ++ jn (ks.map prE) ++ (⟨#[41]⟩ : ByteArray)).size ≤ _
          rw [ByteArray.size_append, ByteArray.size_append]
          show _ + _ + 1 ≤ _
          rw [Nat.pow_succ]
          omega
end Go.Proofs.YtkhnjmbgkakngaaGreatDoor

namespace Go.Proofs.YtkhnjmbgkakngaaGreatDoor
open Go Fp
set_option maxRecDepth 10000
set_option maxHeartbeats 8000000
set_option linter.unusedVariables false
set_option linter.unusedSimpArgs false

def csL : List Cl := [⟨⟨#[79]⟩, 1, .empty, [⟨#[69]⟩], []⟩, ⟨⟨#[69]⟩, 2, .empty, [], []⟩]
def isL : List In := [⟨⟨#[69]⟩, 3, sInt, [], []⟩, ⟨⟨#[69]⟩, 4, sL, [⟨#[97]⟩], [⟨⟨#[69]⟩, .var ⟨#[97]⟩⟩]⟩]
theorem leastL : (leastR (refs csL.reverse csL isL)).1 = 0 := by decide
theorem leastL2 : leastR (refs csL.reverse csL isL) = (0, 0) := by decide
theorem pathL : pathB csL.reverse ⟨#[79]⟩ ⟨#[69]⟩ = (true, [0]) := by decide
theorem ins1 : instE isL ⟨⟨#[69]⟩, .app (.con sL) (.con sInt)⟩ = some (1, [⟨⟨#[69]⟩, .con sInt⟩]) := by
  unfold instE
  refine (if_pos rfl).trans ?_
  rw [show instI isL _ _ = some 1 from by decide]
  show (needsE _ _).map _ = _
  unfold needsE
  rw [if_pos ⟨rfl, rfl, rfl⟩]
  simp [putP, sub, look, args, spAr]
theorem ins2 : instE isL ⟨⟨#[69]⟩, .con sInt⟩ = some (0, []) := by
  unfold instE
  refine (if_pos rfl).trans ?_
  rw [show instI isL _ _ = some 0 from by decide]
  show (needsE _ _).map _ = _
  unfold needsE
  rw [if_pos ⟨rfl, rfl, rfl⟩]
  rfl
theorem by1 : byE csL.reverse isL [] 4 ⟨⟨#[69]⟩, .app (.con sL) (.con sInt)⟩ = some (.mk 3 1 [.mk 3 0 []]) := by
  rw [byE, byG]
  simp only [ins1, kidsO]
  rw [byE, byG]
  simp only [ins2, kidsO]
  rfl
theorem by2 : byE csL.reverse isL [⟨⟨#[79]⟩, .var ⟨#[98]⟩⟩] 2 ⟨⟨#[69]⟩, .var ⟨#[98]⟩⟩ = some (.mk 2 0 [.mk 1 0 []]) := by
  rw [byE, byG, pathL]; simp [wrapV]
theorem prL1 : prE (.mk 3 1 [.mk 3 0 []]) = ⟨#[105, 49, 40, 105, 48, 40, 41, 41]⟩ := by
  simp [prE_mk, dcm_small]
  rfl
theorem prL2 : prE (.mk 2 0 [.mk 1 0 []]) = ⟨#[115, 48, 40, 103, 48, 41]⟩ := by
  simp [prE_mk, dcm_small]
  rfl
theorem evL1 : EvOk (.mk 3 1 [.mk 3 0 []]) := by
  have h0 : EvOk (.mk 3 0 []) := .mk (n := 0) (by decide) (by decide) (by decide) (fun k hk => by simp at hk)
  refine .mk (n := 1) (by decide) (by decide) ?_ (fun k hk => by simp at hk; subst hk; exact h0)
  rw [List.map_cons, List.map_nil, jn_one]
  simp [prE_mk, dcm_small]
  decide
theorem evL2 : EvOk (.mk 2 0 [.mk 1 0 []]) := by
  have h0 : EvOk (.mk 1 0 []) := .mk (n := 0) (by decide) (by decide) (by decide) (fun k hk => by simp at hk)
  refine .mk (n := 0) (by decide) (by decide) ?_ (fun k hk => by simp at hk; subst hk; exact h0)
  rw [List.map_cons, List.map_nil, jn_one]
  simp [prE_mk, dcm_small]
  decide
theorem smlL : ∀ y ∈ isL, WIn y := fun y hy => by
  simp [isL] at hy
  rcases hy with rfl | rfl
  · exact ⟨⟨fun q hq => by simp at hq, by decide, by decide⟩, fun q hq => by simp at hq⟩
  · exact ⟨⟨fun q hq => by simp at hq; subst hq; exact trivial, by decide, by decide⟩, fun q hq => by simp at hq; subst hq; exact ⟨_, by simp, rfl⟩⟩
theorem con_mk (s : ByteArray) : ACall Tryz.prog n_types_Con [.lit (.string s)] (eTy (.con s)) := by
  refine acall_of_wcx ttok mixed Tryz.func32 rfl (by rfl) (Nat.le_of_ble_eq_true rfl) (by kernel_rfl) ?_
  exact rfl
theorem lives_ok : ACall Tryz.prog n_fuguelaw12_lives [] (.sb true) := by
  have hN := newE_calls csL isL (by decide) (by decide) (by decide) (by decide) (by decide)
  rw [leastL2, if_pos rfl] at hN
  have hB1 := by_ok csL.reverse (eM (mthAll csL csL.length)) isL [] (by decide) (by decide) (by decide) smlL (by decide) (fun g hg => by simp at hg) 4 ⟨⟨#[69]⟩, .app (.con sL) (.con sInt)⟩ ⟨trivial, trivial⟩ (by decide) (by decide)
  rw [by1] at hB1
  have hB2 := by_ok csL.reverse (eM (mthAll csL csL.length)) isL [⟨⟨#[79]⟩, .var ⟨#[98]⟩⟩] (by decide) (by decide) (by decide) smlL (by decide) (fun g hg => by simp at hg; subst hg; exact ⟨trivial, by decide⟩) 2 ⟨⟨#[69]⟩, .var ⟨#[98]⟩⟩ trivial (by decide) (by decide)
  rw [by2] at hB2
  have hP1 := print_ok evL1
  rw [prL1] at hP1
  have hP2 := print_ok evL2
  rw [prL2] at hP2
  refine acall_of_wsem ttok mixed Tryz.func7 rfl (by rfl) (Nat.le_of_ble_eq_true rfl) (by kernel_rfl) ?_
  refine Wsem.seq ttok mixed ?_
  refine Wsem.seq ttok mixed ?_
  refine .inl ⟨_, var_mk _, ?_⟩
  refine Wsem.seq ttok mixed ?_
  refine Wsem.cut { vs := [(2, .box 0 (eProg csL isL))] } ⟨⟨rfl, trivial⟩, trivial, rfl⟩ ?_
  refine Wsem.seq ttok mixed ?_
  refine .inr (.inr (.inr (.inr (.inr (.inl ⟨[], [], [], _, rfl, by decide, rfl, hN, ?_⟩)))))
  rintro r o h ⟨rfl, rfl, rfl⟩
  refine Wsem.cut { vs := [(3, .v (eEnv csL.reverse (eM (mthAll csL csL.length)) isL)), (4, .box 0 (eAt (0, 0)))] } ⟨⟨rfl, rfl, trivial⟩, trivial, rfl⟩ ?_
  refine Wsem.of ttok mixed ?_
  refine ⟨fun hbs => ?_, fun hbs => ?_⟩ <;> first | (exfalso; revert hbs; (simp); done) | skip
  refine .inl ⟨_, con_mk sL, ?_⟩
  refine .inl ⟨_, con_mk sInt, ?_⟩
  refine .inl ⟨_, appT_ok (.con sL) [.con sInt] (by decide), ?_⟩
  refine .inl ⟨_, hB1, ?_⟩
  refine .inl ⟨_, var_mk ⟨#[98]⟩, ?_⟩
  refine .inl ⟨_, var_mk ⟨#[98]⟩, ?_⟩
  refine .inl ⟨_, hB2, ?_⟩
  refine ⟨fun hbs => ?_, fun hbs => ?_⟩ <;> first | (exfalso; revert hbs; (simp); done) | skip
  refine .inl ⟨_, hP1, ?_⟩
  refine ⟨fun hbs => ?_, fun hbs => ?_⟩ <;> first | (exfalso; revert hbs; (simp); done) | skip
  refine ⟨fun hbs => ?_, fun hbs => ?_⟩ <;> first | (exfalso; revert hbs; (simp); done) | skip
  refine .inl ⟨_, hP2, ?_⟩
  exact rfl
end Go.Proofs.YtkhnjmbgkakngaaGreatDoor
