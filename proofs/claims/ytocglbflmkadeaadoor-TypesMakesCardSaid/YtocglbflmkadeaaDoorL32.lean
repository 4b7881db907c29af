/- A part of the proof of a given statement: contracts of functions of the program, under no condition but those that each states. -/
import Derived.Test.YtocglbflmkadeaaDoorL31
import Derived.Test.YtocglbflmkadeaaDoorFpE
set_option linter.unusedSimpArgs false
set_option linter.unusedVariables false
namespace Go.Proofs.YtocglbflmkadeaaDoor
open Go Fp
set_option maxRecDepth 100000
set_option maxHeartbeats 8000000

/-- Types as they lie, one behind the other. -/
def fl (l : List Tp) (rest : List AV) : List AV := (eTys l).flatMap AV.cells ++ rest
theorem fl_cons (t : Tp) (l : List Tp) (rest : List AV) : fl (t :: l) rest = (eTy t).cells ++ fl l rest := by simp [fl, eTys]
theorem eTy_len (t : Tp) : (eTy t).cells.length = 4 := rfl
theorem fl_len (l : List Tp) (rest : List AV) : (fl l rest).length = l.length * 4 + rest.length := by
  induction l with
  | nil => simp [fl, eTys]
  | cons t l ih => rw [fl_cons, List.length_append, ih, eTy_len, List.length_cons]; omega
theorem fl_at (rest : List AV) : ∀ (l : List Tp) (k : Nat) (h : k < l.length), ((fl l rest).drop (k * 4)).take 4 = (eTy l[k]).cells
  | [], k, h => by simp at h
  | t :: l, 0, _ => by rw [fl_cons, Nat.zero_mul, List.drop_zero, List.take_append_of_le_length (by rw [eTy_len]; omega)]; exact List.take_of_length_le (by rw [eTy_len]; omega)
  | t :: l, k + 1, h => by
    rw [fl_cons, show (k + 1) * 4 = (eTy t).cells.length + k * 4 by rw [eTy_len]; omega, List.drop_length_add_append]
    exact fl_at rest l k (by simpa using h)
theorem fl_set (rest : List AV) (x : Tp) : ∀ (l : List Tp) (k : Nat), k < l.length → setAt (fl l rest) (k * 4) (eTy x).cells = fl (l.set k x) rest
  | [], k, h => by simp at h
  | t :: l, 0, _ => by
    rw [List.set_cons_zero, fl_cons, fl_cons]
    unfold setAt
    rw [Nat.zero_mul, List.take_zero, List.nil_append, Nat.zero_add, show (eTy x).cells.length = (eTy t).cells.length from rfl, List.drop_left]
  | t :: l, k + 1, h => by
    have ih := fl_set rest x l k (by simpa using h)
    rw [List.set_cons_succ, fl_cons, fl_cons, ← ih]
    unfold setAt
    rw [show (k + 1) * 4 = (eTy t).cells.length + k * 4 by rw [eTy_len]; omega, List.take_length_add_append, List.append_assoc, Nat.add_assoc, List.drop_length_add_append]

/-- Turned round from both ends, so far. -/
def sw (l : List Tp) (k : Nat) : List Tp := (List.range l.length).map fun i => if i < k ∨ l.length - 1 - i < k then l.getD (l.length - 1 - i) .no else l.getD i .no
theorem sw_len (l : List Tp) (k : Nat) : (sw l k).length = l.length := by simp [sw]
theorem sw_get {l : List Tp} {k i : Nat} (h : i < (sw l k).length) : (sw l k)[i] = if i < k ∨ l.length - 1 - i < k then l.getD (l.length - 1 - i) .no else l.getD i .no := by simp [sw]
theorem sw_0 (l : List Tp) : sw l 0 = l := by
  refine List.ext_getElem (sw_len l 0) fun i h1 h2 => ?_
  rw [sw_get, if_neg (by omega)]
  simp [h2]
theorem sw_end {l : List Tp} {k : Nat} (h : l.length ≤ 2 * k + 1) : sw l k = l.reverse := by
  refine List.ext_getElem (by rw [sw_len]; simp) fun i h1 h2 => ?_
  rw [sw_len] at h1
  rw [sw_get, List.getElem_reverse]
  have h3 : l.length - 1 - i < l.length := by omega
  split
  · simp [h3]
  · have e : l.getD i .no = l.getD (l.length - 1 - i) .no := congrArg (fun j => l.getD j .no) (show i = l.length - 1 - i by omega)
    rw [e]
    simp [h3]
theorem sw_step {l : List Tp} {k : Nat} (h : 2 * k + 1 < l.length) (h1 : k < (sw l k).length) (h2 : l.length - 1 - k < (sw l k).length) :
    ((sw l k).set k (sw l k)[l.length - 1 - k]).set (l.length - 1 - k) (sw l k)[k] = sw l (k + 1) := by
  refine List.ext_getElem (by simp [sw_len]) fun i h3 h4 => ?_
  simp only [List.length_set, sw_len] at h3
  simp only [List.getElem_set, sw_get]
  by_cases e1 : l.length - 1 - k = i
  · rw [if_pos e1, if_neg (by omega), if_pos (by omega)]
    congr 1; omega
  · rw [if_neg e1]
    by_cases e2 : k = i
    · rw [if_pos e2, if_neg (by omega), if_pos (by omega)]
      congr 1; omega
    · rw [if_neg e2]
      by_cases e3 : i < k ∨ l.length - 1 - i < k
      · rw [if_pos e3, if_pos (by omega)]
      · rw [if_neg e3, if_neg (by omega)]

theorem reverse_ok (b cap : Nat) (l : List Tp) (rest : List AV) (hl : l.length < 1000000000) :
    CallsG Tryd.prog (fnv n_slices_Reverse_apiTypeapiType) [(b, .cells (fl l rest))] [.lit (.slice (some ⟨b, 0, none⟩) l.length cap)] [] fun r o h => h = [(b, .cells (fl l.reverse rest))] := by
  refine callsG_of_wc ttok mixed Tryd.func48 rfl (by rfl) (by rfl) (Nat.le_of_ble_eq_true rfl) (Nat.le_of_ble_eq_true rfl) (by kernel_rfl) ?_
  have e0 : IntKind.i64.wrap ((l.length : Nat) - 1 : Int) = (l.length : Int) - 1 := wrap_sub (by omega) (by omega)
  refine ⟨{k : Nat // 2 * k ≤ l.length}, fun k => { vs := [(0, .v (.lit (.slice (some ⟨b, 0, none⟩) l.length cap))), (2, .v (.lit (.int .i64 (k.1 : Nat)))), (3, .v (.lit (.int .i64 ((l.length : Int) - 1 - (k.1 : Nat)))))], ow := [], hp := [(b, .cells (fl (sw l k.1) rest))] },
    fun k => l.length - k.1, ⟨0, Nat.zero_le _⟩, ⟨⟨rfl, rfl, ?_, trivial⟩, trivial, ?_⟩, ?_⟩
  · exact congrArg (fun n => SV.v (AV.lit (Value.int .i64 n))) (e0.trans (by simp))
  · show [(b, HO.cells (fl l rest))] = [(b, HO.cells (fl (sw l 0) rest))]
    rw [sw_0]
  rintro ⟨k, hk⟩
  have hsl := sw_len l k
  refine ⟨fun h => ?_, fun h => ?_⟩
  · have h : 2 * k + 1 < l.length := by
      have := of_decide_eq_true h
      simp only at this
      omega
    have h1 : k < (sw l k).length := by omega
    have h2 : l.length - 1 - k < (sw l k).length := by omega
    have ej : ((l.length : Int) - 1 - (k : Nat)).toNat = l.length - 1 - k := by omega
    have hfl := fl_len (sw l k) rest
    have a1 := fl_at rest (sw l k) (l.length - 1 - k) h2
    have a2 := fl_at rest (sw l k) k h1
    have b1 := fl_set rest (sw l k)[l.length - 1 - k] (sw l k) k h1
    have b2 := fl_set rest (sw l k)[k] ((sw l k).set k (sw l k)[l.length - 1 - k]) (l.length - 1 - k) (by simpa using h2)
    rw [sw_step h h1 h2] at b2
    refine ⟨by show (0 : Int) ≤ (l.length : Int) - 1 - (k : Nat); omega, by show (l.length : Int) - 1 - (k : Nat) < _; omega, ?_⟩
    have ek : (Int.toNat ((k : Nat) : Int)) = k := rfl
    refine ⟨0, _, rfl, by rw [ej, hfl]; omega, ?_⟩
    rw [Nat.zero_add, ej, a1]
    refine ⟨by omega, by show ((k : Nat) : Int) < _; omega, ?_⟩
    refine ⟨0, _, rfl, by show 0 + k * 4 + 4 ≤ (fl (sw l k) rest).length; rw [hfl]; omega, ?_⟩
    rw [Nat.zero_add, ek, a2]
    refine ⟨by omega, by show ((k : Nat) : Int) < _; omega, ?_⟩
    refine ⟨rfl, 0, _, rfl, by show 0 + k * 4 + 4 ≤ (fl (sw l k) rest).length; rw [hfl]; omega, ?_⟩
    have b1' : setAt (fl (sw l k) rest) (k * 4) (AV.agg (eTy (sw l k)[l.length - 1 - k]).cells).cells = fl ((sw l k).set k (sw l k)[l.length - 1 - k]) rest := b1
    have b2' : setAt (fl ((sw l k).set k (sw l k)[l.length - 1 - k]) rest) ((l.length - 1 - k) * 4) (AV.agg (eTy (sw l k)[k]).cells).cells = fl (sw l (k + 1)) rest := b2
    rw [Nat.zero_add, ek, b1']
    refine ⟨by show (0 : Int) ≤ (l.length : Int) - 1 - (k : Nat); omega, by show (l.length : Int) - 1 - (k : Nat) < _; omega, ?_⟩
    refine ⟨rfl, 0, _, rfl, by
      show 0 + Int.toNat ((l.length : Int) - 1 - (k : Nat)) * 4 + 4 ≤ (fl ((sw l k).set k (sw l k)[l.length - 1 - k]) rest).length
      rw [ej, fl_len, List.length_set]; omega, ?_⟩
    rw [Nat.zero_add, ej, b2']
    refine ⟨⟨k + 1, by omega⟩, (show l.length - (k + 1) < l.length - k by omega), ⟨rfl, ?_, ?_, trivial⟩, trivial, rfl⟩
    · exact congrArg (fun n => SV.v (AV.lit (Value.int .i64 n))) (wrap_succ (k := k) (by omega))
    · refine congrArg (fun n => SV.v (AV.lit (Value.int .i64 n))) ?_
      show IntKind.i64.wrap ((l.length : Int) - 1 - (k : Nat) - 1) = (l.length : Int) - 1 - ((k + 1 : Nat) : Int)
      rw [wrap_sub (by omega) (by omega)]; omega
  · have h : l.length ≤ 2 * k + 1 := by
      have := of_decide_eq_false h
      simp only at this
      omega
    show [(b, HO.cells (fl (sw l k) rest))] = _
    rw [sw_end h]
end Go.Proofs.YtocglbflmkadeaaDoor
