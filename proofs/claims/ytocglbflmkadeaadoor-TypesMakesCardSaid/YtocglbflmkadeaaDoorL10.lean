/- A part of the proof of a given statement: contracts of functions of the program, under no condition but those that each states. -/
import Derived.Test.YtocglbflmkadeaaDoorL9
set_option linter.unusedSimpArgs false
set_option linter.unusedVariables false
namespace Go.Proofs.YtocglbflmkadeaaDoor
open Go Fp
set_option maxRecDepth 100000
set_option maxHeartbeats 4000000

/-- A number's digits. -/
def dcm (n : Nat) : ByteArray := if h : n < 10 then ⟨#[UInt8.ofNat (48 + n)]⟩ else dcm (n / 10) ++ ⟨#[UInt8.ofNat (48 + n % 10)]⟩
termination_by n

theorem dcm_small {n : Nat} (h : n < 10) : dcm n = ⟨#[UInt8.ofNat (48 + n)]⟩ := by rw [dcm, dif_pos h]
theorem dcm_big {n : Nat} (h : ¬ n < 10) : dcm n = dcm (n / 10) ++ ⟨#[UInt8.ofNat (48 + n % 10)]⟩ := by rw [dcm, dif_neg h]
theorem sz1 (x : UInt8) : (ByteArray.mk #[x]).size = 1 := rfl
theorem dcm_size : ∀ (k n : Nat), n < 10 ^ k → 0 < k → (dcm n).size ≤ k
  | 0, n, h, hk => by omega
  | k + 1, n, h, _ => by
    by_cases h10 : n < 10
    · rw [dcm_small h10, sz1]; omega
    · rw [dcm_big h10, ByteArray.size_append, sz1]
      have hk : 0 < k := by
        rcases Nat.eq_zero_or_pos k with rfl | h'
        · simp at h; omega
        · exact h'
      have := dcm_size k (n / 10) (by rw [Nat.pow_succ] at h; omega) hk
      omega

theorem wrap8 {n : Nat} (h : n < 256) : IntKind.u8.wrap (n : Int) = n := by
  simp [IntKind.wrap, IntKind.signed, IntKind.bits]; omega

theorem decimal_ok (N : Nat) : ∀ n : Nat, n ≤ N → N < 1000000000 → ACall Tryd.prog n_fugueref01_Decimal [.lit (.int .i64 (n : Nat))] (.lit (.string (dcm n))) := by
  induction N using Nat.strongRecOn with
  | _ N ih =>
    intro n hn hN
    refine acall_of_wc ttok mixed Tryd.func51 rfl (by rfl) (Nat.le_of_ble_eq_true rfl) (by kernel_rfl) ?_
    have e1 : ((n : Int).tmod 10) = ((n % 10 : Nat) : Int) := rfl
    have e2 : IntKind.i64.wrap (48 + (n : Int).tmod 10) = ((48 + n % 10 : Nat) : Int) := by rw [e1, show (48 : Int) + ((n % 10 : Nat) : Int) = ((48 + n % 10 : Nat) : Int) by omega]; exact wrap_nat (by omega)
    have e3 : IntKind.u8.wrap (IntKind.i64.wrap (48 + (n : Int).tmod 10)) = ((48 + n % 10 : Nat) : Int) := by rw [e2]; exact wrap8 (by omega)
    have e4 : IntKind.i64.wrap ((n : Int).tdiv 10) = ((n / 10 : Nat) : Int) := by rw [show ((n : Int).tdiv 10) = ((n / 10 : Nat) : Int) by simp]; exact wrap_nat (by omega)
    have hb : (IntKind.u8.wrap (IntKind.i64.wrap (48 + (n : Int).tmod 10))).toNat = 48 + n % 10 := by rw [e3]; rfl
    refine ⟨by decide, ?_⟩
    refine ⟨fun h => by simp at h; omega, fun _ => ?_⟩
    refine ⟨fun _ => ?_, fun h => by simp at h; omega⟩
    refine ⟨fun h => ?_, fun h => ?_⟩
    · have h : n < 10 := by simp at h; omega
      refine ⟨fun h => by simp at h; omega, fun _ => ?_⟩
      show AV.lit (.string ⟨[UInt8.ofNat (IntKind.u8.wrap (IntKind.i64.wrap (48 + (n : Int).tmod 10))).toNat].toArray⟩) = _
      rw [hb, dcm_small h, Nat.mod_eq_of_lt h]
    · have h : ¬ n < 10 := by simp at h; omega
      have hc := ih (n / 10) (by omega) (n / 10) (Nat.le_refl _) (by omega)
      rw [← e4] at hc
      refine ⟨by decide, .inl ⟨_, hc, ?_⟩⟩
      refine ⟨?_, ?_⟩
      · have := dcm_size 9 (n / 10) (by omega) (by decide)
        show _ + (ByteArray.mk #[_]).size ≤ _
        rw [sz1]; omega
      · show AV.lit (.string (dcm (n / 10) ++ ⟨[UInt8.ofNat (IntKind.u8.wrap (IntKind.i64.wrap (48 + (n : Int).tmod 10))).toNat].toArray⟩)) = _
        rw [hb, dcm_big h]

theorem dec_of_two {a : Nat} (h1 : ¬ a < 10) (h2 : a < 100) : dcm a = ⟨#[UInt8.ofNat (48 + a / 10), UInt8.ofNat (48 + a % 10)]⟩ := by
  rw [dcm_big h1, dcm_small (by omega)]; rfl

def sm100 : ByteArray := ⟨((List.range 100).flatMap fun i => [UInt8.ofNat (48 + i / 10), UInt8.ofNat (48 + i % 10)]).toArray⟩
theorem sm100_at : ∀ i : Fin 100, sm100.extract (Int.toNat ((i.val * 2 : Nat) : Int)) (Int.toNat ((i.val * 2 + 2 : Nat) : Int)) = ⟨#[UInt8.ofNat (48 + i.val / 10), UInt8.ofNat (48 + i.val % 10)]⟩ := by decide +kernel

theorem small_ok {n : Nat} (hn : n < 100) : ACall Tryd.prog n_internal_strconv_small [.lit (.int .i64 (n : Nat))] (.lit (.string (dcm n))) := by
  refine acall_of_wc ttok mixed Tryd.func71 rfl (by rfl) (Nat.le_of_ble_eq_true rfl) (by kernel_rfl) ?_
  have e1 : IntKind.i64.wrap ((n : Int) + 1) = ((n + 1 : Nat) : Int) := wrap_succ (by omega)
  have e2 : IntKind.i64.wrap ((n : Int) * 2) = ((n * 2 : Nat) : Int) := by rw [show (n : Int) * 2 = ((n * 2 : Nat) : Int) by omega]; exact wrap_nat (by omega)
  have e3 : IntKind.i64.wrap (IntKind.i64.wrap ((n : Int) * 2) + 2) = ((n * 2 + 2 : Nat) : Int) := by rw [e2, show ((n * 2 : Nat) : Int) + 2 = ((n * 2 + 2 : Nat) : Int) by omega]; exact wrap_nat (by omega)
  refine ⟨fun h => ?_, fun h => ?_⟩
  · have h : n < 10 := by simp at h; omega
    refine ⟨by omega, by rw [e1]; omega, ?_, ?_⟩
    · rw [e1]; show ((n + 1 : Nat) : Int) ≤ ((36 : Nat) : Int); omega
    · rw [e1]
      have : ∀ i : Fin 10, (ByteArray.mk #[48, 49, 50, 51, 52, 53, 54, 55, 56, 57, 97, 98, 99, 100, 101, 102, 103, 104, 105, 106, 107, 108, 109, 110, 111, 112, 113, 114, 115, 116, 117, 118, 119, 120, 121, 122]).extract (Int.toNat (i.val : Int)) (Int.toNat ((i.val + 1 : Nat) : Int)) = ⟨#[UInt8.ofNat (48 + i.val)]⟩ := by decide +kernel
      have := this ⟨n, h⟩
      rw [dcm_small h, ← this]
      exact rfl
  · have h : ¬ n < 10 := by simp at h; omega
    refine ⟨by rw [e2]; omega, by rw [e3, e2]; omega, ?_, ?_⟩
    · rw [e3]; show ((n * 2 + 2 : Nat) : Int) ≤ ((200 : Nat) : Int); omega
    · rw [e3, e2]
      have hf : AV.lit (.string (sm100.extract (Int.toNat ((n * 2 : Nat) : Int)) (Int.toNat ((n * 2 + 2 : Nat) : Int)))) = AV.lit (.string (dcm n)) := by
        rw [dec_of_two h hn]
        exact congrArg (fun s => AV.lit (.string s)) (sm100_at ⟨n, hn⟩)
      refine Eq.trans (congrArg (fun s : ByteArray => AV.lit (.string (s.extract (Int.toNat ((n * 2 : Nat) : Int)) (Int.toNat ((n * 2 + 2 : Nat) : Int))))) (?_ : _ = sm100)) hf
      kernel_rfl

theorem itoa_ok {n : Nat} (hn : n < 100) : ACall Tryd.prog n_strconv_Itoa [.lit (.int .i64 (n : Nat))] (.lit (.string (dcm n))) := by
  refine acall_of_wc ttok mixed Tryd.func64 rfl (by rfl) (Nat.le_of_ble_eq_true rfl) (by kernel_rfl) ?_
  refine .inl ⟨.lit (.string (dcm n)), ?_, rfl⟩
  refine acall_of_wc ttok mixed Tryd.func68 rfl (by rfl) (Nat.le_of_ble_eq_true rfl) (by kernel_rfl) ?_
  refine .inl ⟨.lit (.string (dcm n)), ?_, rfl⟩
  refine acall_of_wc ttok mixed Tryd.func70 rfl (by rfl) (Nat.le_of_ble_eq_true rfl) (by kernel_rfl) ?_
  refine ⟨fun _ => ?_, fun h => (by simp at h)⟩
  refine ⟨fun _ => ?_, fun h => (by simp at h)⟩
  refine ⟨fun _ => ?_, fun h => (by simp at h; omega)⟩
  refine .inl ⟨_, small_ok hn, ?_⟩
  exact rfl

/-- The name of a number. -/
def lett (n : Nat) : ByteArray := if n < 26 then ⟨#[UInt8.ofNat (97 + n % 26)]⟩ else ⟨#[UInt8.ofNat (97 + n % 26)]⟩ ++ dcm (n / 26)

theorem enc26 : ∀ i : Fin 26, Utf8.encode ((97 + i.val : Nat) : Int) = ⟨#[UInt8.ofNat (97 + i.val)]⟩ := by decide +kernel
theorem wrap32 {n : Nat} (h : n < 256) : IntKind.i32.wrap (n : Int) = n := by
  simp [IntKind.wrap, IntKind.signed, IntKind.bits]; omega

theorem letters_ok {n : Nat} (hn : n < 2600) : ACall Tryd.prog n_chars_Letters [.lit (.int .i64 (n : Nat))] (.lit (.string (lett n))) := by
  refine acall_of_wc ttok mixed Tryd.func69 rfl (by rfl) (Nat.le_of_ble_eq_true rfl) (by kernel_rfl) ?_
  have e1 : ((n : Int).tmod 26) = ((n % 26 : Nat) : Int) := rfl
  have e2 : IntKind.i64.wrap (97 + (n : Int).tmod 26) = ((97 + n % 26 : Nat) : Int) := by rw [e1, show (97 : Int) + ((n % 26 : Nat) : Int) = ((97 + n % 26 : Nat) : Int) by omega]; exact wrap_nat (by omega)
  have e3 : Utf8.encode (IntKind.i32.wrap (IntKind.i64.wrap (97 + (n : Int).tmod 26))) = ⟨#[UInt8.ofNat (97 + n % 26)]⟩ := by rw [e2, wrap32 (by omega)]; exact enc26 ⟨n % 26, by omega⟩
  have e4 : IntKind.i64.wrap ((n : Int).tdiv 26) = ((n / 26 : Nat) : Int) := by rw [show ((n : Int).tdiv 26) = ((n / 26 : Nat) : Int) by simp]; exact wrap_nat (by omega)
  refine ⟨by decide, ?_⟩
  refine ⟨fun h => ?_, fun h => ?_⟩
  · have h : n < 26 := by simp at h; omega
    show AV.lit (.string (Utf8.encode (IntKind.i32.wrap (IntKind.i64.wrap (97 + (n : Int).tmod 26))))) = _
    rw [e3, lett, if_pos h]
  · have h : ¬ n < 26 := by simp at h; omega
    have hc := itoa_ok (n := n / 26) (by omega)
    rw [← e4] at hc
    refine ⟨by decide, .inl ⟨_, hc, ?_, ?_⟩⟩
    · have := dcm_size 9 (n / 26) (by omega) (by decide)
      rw [e3, sz1]; omega
    · show AV.lit (.string (Utf8.encode (IntKind.i32.wrap (IntKind.i64.wrap (97 + (n : Int).tmod 26))) ++ dcm (n / 26))) = _
      rw [e3, lett, if_neg h]

theorem refletters_ok {n : Nat} (hn : n < 2600) : ACall Tryd.prog n_fugueref01_Letters [.lit (.int .i64 (n : Nat))] (.lit (.string (lett n))) := by
  refine acall_of_wc ttok mixed Tryd.func54 rfl (by rfl) (Nat.le_of_ble_eq_true rfl) (by kernel_rfl) ?_
  have e1 : ((n : Int).tmod 26) = ((n % 26 : Nat) : Int) := rfl
  have e2 : IntKind.i64.wrap (97 + (n : Int).tmod 26) = ((97 + n % 26 : Nat) : Int) := by rw [e1, show (97 : Int) + ((n % 26 : Nat) : Int) = ((97 + n % 26 : Nat) : Int) by omega]; exact wrap_nat (by omega)
  have e3 : (IntKind.u8.wrap (IntKind.i64.wrap (97 + (n : Int).tmod 26))).toNat = 97 + n % 26 := by rw [e2, wrap8 (by omega)]; rfl
  have e4 : IntKind.i64.wrap ((n : Int).tdiv 26) = ((n / 26 : Nat) : Int) := by rw [show ((n : Int).tdiv 26) = ((n / 26 : Nat) : Int) by simp]; exact wrap_nat (by omega)
  refine ⟨by decide, ?_⟩
  refine ⟨fun h => ?_, fun h => ?_⟩
  · have h : n < 26 := by simp at h; omega
    show AV.lit (.string ⟨[UInt8.ofNat (IntKind.u8.wrap (IntKind.i64.wrap (97 + (n : Int).tmod 26))).toNat].toArray⟩) = _
    rw [e3, lett, if_pos h]
  · have h : ¬ n < 26 := by simp at h; omega
    have hc := decimal_ok (n / 26) (n / 26) (Nat.le_refl _) (by omega)
    rw [← e4] at hc
    refine ⟨by decide, .inl ⟨_, hc, ?_, ?_⟩⟩
    · have := dcm_size 9 (n / 26) (by omega) (by decide)
      show (ByteArray.mk #[_]).size + _ ≤ _
      rw [sz1]; omega
    · show AV.lit (.string (⟨[UInt8.ofNat (IntKind.u8.wrap (IntKind.i64.wrap (97 + (n : Int).tmod 26))).toNat].toArray⟩ ++ dcm (n / 26))) = _
      rw [e3, lett, if_neg h]
end Go.Proofs.YtocglbflmkadeaaDoor
