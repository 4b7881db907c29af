/- The program's 'Missing', and the document's examples. No condition. -/
import Derived.Test.YtefdahofpjmnfaaL26
set_option linter.unusedSimpArgs false
set_option linter.unusedVariables false
namespace Go.Proofs.Ytefdahofpjmnfaa
open Go Fp
set_option maxRecDepth 10000
set_option maxHeartbeats 16000000

theorem Missing_ok {t : Nat} {l : List Pt} (h : PatsOk t l) : ACall Try.prog n_cover_Missing [cAV, .sl (ePts l)] (misOr (missOf l)) := by
  have hl := h.2.1
  have h1 := rows_ok l (by omega)
  have h2 : ACall Try.prog n_cover_missing [cAV, .sl (eRws 0 (fun _ => 0) (rowsFrom 0 l)), .lit (.int .i64 1)] (missOr (miss 300 (rowsFrom 0 l) 1)) := missing_ok 0 (fun _ => 0) 300 (rowsFrom 0 l) [t] h.all
  unfold missOf
  have hml0 := miss_len 300 (rowsFrom 0 l) 1
  generalize miss 300 (rowsFrom 0 l) 1 = mm at h2 hml0
  refine acall_of_wcx ttok mixed Try.func8 rfl (by rfl) (Nat.le_of_ble_eq_true rfl) (by kernel_rfl) ?_
  refine .inl ⟨_, h1, .inl ⟨_, h2, ?_⟩⟩
  match mm, hml0 with
  | none, _ =>
    refine ⟨fun hbs => ?_, fun hbs => ?_⟩ <;> first | (exfalso; revert hbs; simp [Kn.form]; done) | skip
    exact rfl
  | some [p], _ =>
    refine ⟨fun hbs => ?_, fun hbs => ?_⟩ <;> first | (exfalso; revert hbs; simp [Kn.form]; done) | skip
    refine ⟨ePt p, by omega, rfl, rfl, ?_⟩
    exact rfl
  | some [], hml0 => exact absurd (hml0 [] rfl) (by simp)
  | some (p :: q :: m), hml0 => exact absurd (hml0 _ rfl) (by simp)

theorem type20_ok (t : Nat) (ht : t < 5) : ACall Try.prog n_fugueref20_Type [.lit (.int .i64 (t : Nat))] (eTy (wTy t)) := by
  refine acall_of_wcx ttok mixed Try.func30 rfl (by rfl) (Nat.le_of_ble_eq_true rfl) (by kernel_rfl) ?_
  exact .inl ⟨_, worldType_ok t ht, rfl⟩

abbrev pN : Pt := .mk 4 0 sN .no [wTy 0] []
abbrev pOne : Pt := .mk 4 0 sC .no [wTy 0] [wildP, pN]
abbrev pWW : Pt := .mk 4 0 sC .no [] [wildP, wildP]
abbrev pI (n : Int) : Pt := .mk 3 n .empty .no [] []
theorem ty_pN : TyP 2 pN := .con 2 _ [] rfl (List.Mem.head _) rfl (fun i x u hx => by simp [Pt.k] at hx)
theorem tyC {ts : List Tp} {a b : Pt} (ha : TyP 0 a) (hb : TyP 2 b) : TyP 2 (.mk 4 0 sC .no ts [a, b]) := .con 2 _ [0, 2] rfl (List.Mem.tail _ (List.Mem.head _)) rfl (fun i x u hx hu => by
  match i with
  | 0 => simp [Pt.k] at hx hu; subst hx; subst hu; exact ha
  | 1 => simp [Pt.k] at hx hu; subst hx; subst hu; exact hb
  | i + 2 => simp [Pt.k] at hx)
theorem patsA : PatsOk 2 [pN, pWW] := ⟨by decide, by decide, fun p hp => by
  simp at hp
  rcases hp with rfl | rfl
  · exact ⟨ty_pN, by decide⟩
  · exact ⟨tyC (ty_wild 0) (ty_wild 2), by decide⟩⟩
theorem patsB : PatsOk 2 [pN, pOne] := ⟨by decide, by decide, fun p hp => by
  simp at hp
  rcases hp with rfl | rfl
  · exact ⟨ty_pN, by decide⟩
  · exact ⟨tyC (ty_wild 0) ty_pN, by decide⟩⟩
theorem patsC : PatsOk 0 [pI 0, pI 1] := ⟨by decide, by decide, fun p hp => by
  simp at hp
  rcases hp with rfl | rfl
  · exact ⟨.int _ rfl rfl (by decide), by decide⟩
  · exact ⟨.int _ rfl rfl (by decide), by decide⟩⟩
theorem missA : missOf [pN, pWW] = none := by kernel_rfl
theorem missB : missOf [pN, pOne] = some [conP sC [wildP, conP sC [wildP, wildP]]] := by kernel_rfl
theorem missC : missOf [pI 0, pI 1] = some [intP 2] := by kernel_rfl


theorem lives_ok : ACall Try.prog n_fuguelaw20_lives [] (.sb true) := by
  have hA := Missing_ok patsA
  have hB := Missing_ok patsB
  have hC := Missing_ok patsC
  rw [missA] at hA
  rw [missB] at hB
  rw [missC] at hC
  have ht := type20_ok 0 (by decide)
  refine acall_of_wcx ttok mixed Try.func14 rfl (by rfl) (Nat.le_of_ble_eq_true rfl) (by kernel_rfl) ?_
  refine .inl ⟨_, program_ok, .inl ⟨_, new_ok, ?_⟩⟩
  refine .inl ⟨_, ht, ?_⟩
  refine .inl ⟨_, ht, ?_⟩
  refine ⟨by kernel_rfl, ?_⟩
  refine .inl ⟨_, hA, ?_⟩
  refine .inl ⟨_, hB, ?_⟩
  refine .inl ⟨_, hC, ?_⟩
  refine ⟨fun hbs => ?_, fun hbs => ?_⟩ <;> first | (exfalso; revert hbs; decide) | skip
  refine ⟨fun hbs => ?_, fun hbs => ?_⟩ <;> first | (exfalso; revert hbs; decide) | skip
  refine ⟨fun hbs => ?_, fun hbs => ?_⟩ <;> first | (exfalso; revert hbs; decide) | skip
  refine ⟨fun hbs => ?_, fun hbs => ?_⟩ <;> first | (exfalso; revert hbs; decide) | skip
  refine ⟨ePt (conP sC [wildP, wildP]), by omega, rfl, rfl, ?_⟩
  refine ⟨fun hbs => ?_, fun hbs => ?_⟩ <;> first | (exfalso; revert hbs; decide) | skip
  refine ⟨fun hbs => ?_, fun hbs => ?_⟩ <;> first | (exfalso; revert hbs; decide) | skip
  refine ⟨fun hbs => ?_, fun hbs => ?_⟩ <;> first | (exfalso; revert hbs; decide) | skip
  exact rfl
end Go.Proofs.Ytefdahofpjmnfaa
