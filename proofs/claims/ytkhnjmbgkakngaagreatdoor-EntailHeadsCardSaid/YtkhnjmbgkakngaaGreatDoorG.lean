/- A part of the proof of a given statement: contracts of functions of the program, under no condition but those that each states. -/
import Derived.Test.YtkhnjmbgkakngaaGreatDoorF
import Derived.Test.YtkhnjmbgkakngaaGreatDoorFpE
set_option linter.unusedSimpArgs false
set_option linter.unusedVariables false
namespace Go.Proofs.YtkhnjmbgkakngaaGreatDoor
open Go Fp
set_option maxRecDepth 100000
set_option maxHeartbeats 8000000

/-- Types as they lie, one behind the other. -/
def fl (l : List Tp) (rest : List AV) : List AV := (eTys l).flatMap AV.cells ++ rest
theorem fl_cons (t : Tp) (l : List Tp) (rest : List AV) : fl (t :: l) rest = (eTy t).cells ++ fl l rest := by simp [fl, eTys]
theorem eTy_len (t : Tp) : (eTy t).cells.length = 4 := rfl
theorem fl_len (l : List Tp) (rest : List AV) : (fl l rest).length = l.length * 4 + rest.length := by
  induction l with
  | nil => simp [fl, eTys]
  | cons t l ih => rw [fl_cons, List.length_append, ih, eTy_len, List.length_cons]; omega
theorem fl_at (rest : List AV) : ∀ (l : List Tp) (k : Nat) (h : k < l.length), ((fl l rest).drop (k * 4)).take 4 = (eTy l[k]).cells
  | [], k, h => by simp at h
  | t :: l, 0, _ => by rw [fl_cons, Nat.zero_mul, List.drop_zero, List.take_append_of_le_length (by rw [eTy_len]; omega)]; exact List.take_of_length_le (by rw [eTy_len]; omega)
  | t :: l, k + 1, h => by
    rw [fl_cons, show (k + 1) * 4 = (eTy t).cells.length + k * 4 by rw [eTy_len]; omega, List.drop_length_add_append]
    exact fl_at rest l k (by simpa using h)
theorem fl_set (rest : List AV) (x : Tp) : ∀ (l : List Tp) (k : Nat), k < l.length → setAt (fl l rest) (k * 4) (eTy x).cells = fl (l.set k x) rest
  | [], k, h => by simp at h
  | t :: l, 0, _ => by
    rw [List.set_cons_zero, fl_cons, fl_cons]
    unfold setAt
    rw [Nat.zero_mul, List.take_zero, List.nil_append, Nat.zero_add, show (eTy x).cells.length = (eTy t).cells.length from rfl, List.drop_left]
  | t :: l, k + 1, h => by
    have ih := fl_set rest x l k (by simpa using h)
    rw [List.set_cons_succ, fl_cons, fl_cons, ← ih]
    unfold setAt
    rw [show (k + 1) * 4 = (eTy t).cells.length + k * 4 by rw [eTy_len]; omega, List.take_length_add_append, List.append_assoc, Nat.add_assoc, List.drop_length_add_append]

/-- Turned round from both ends, so far. -/
def sw (l : List Tp) (k : Nat) : List Tp := (List.range l.length).map fun i => if i < k ∨ l.length - 1 - i < k then l.getD (l.length - 1 - i) .no else l.getD i .no
theorem sw_len (l : List Tp) (k : Nat) : (sw l k).length = l.length := by simp [sw]
theorem sw_get {l : List Tp} {k i : Nat} (h : i < (sw l k).length) : (sw l k)[i] = if i < k ∨ l.length - 1 - i < k then l.getD (l.length - 1 - i) .no else l.getD i .no := by simp [sw]
theorem sw_0 (l : List Tp) : sw l 0 = l := by
  refine List.ext_getElem (sw_len l 0) fun i h1 h2 => ?_
  rw [sw_get, if_neg (by omega)]
  simp [h2]
theorem sw_end {l : List Tp} {k : Nat} (h : l.length ≤ 2 * k + 1) : sw l k = l.reverse := by
  refine List.ext_getElem (by rw [sw_len]; simp) fun i h1 h2 => ?_
  rw [sw_len] at h1
  rw [sw_get, List.getElem_reverse]
  have h3 : l.length - 1 - i < l.length := by omega
  split
  · simp [h3]
  · have e : l.getD i .no = l.getD (l.length - 1 - i) .no := congrArg (fun j => l.getD j .no) (show i = l.length - 1 - i by omega)
    rw [e]
    simp [h3]
theorem sw_step {l : List Tp} {k : Nat} (h : 2 * k + 1 < l.length) (h1 : k < (sw l k).length) (h2 : l.length - 1 - k < (sw l k).length) :
    ((sw l k).set k (sw l k)[l.length - 1 - k]).set (l.length - 1 - k) (sw l k)[k] = sw l (k + 1) := by
  refine List.ext_getElem (by simp [sw_len]) fun i h3 h4 => ?_
  simp only [List.length_set, sw_len] at h3
  simp only [List.getElem_set, sw_get]
  by_cases e1 : l.length - 1 - k = i
  · rw [if_pos e1, if_neg (by omega), if_pos (by omega)]
    congr 1; omega
  · rw [if_neg e1]
    by_cases e2 : k = i
    · rw [if_pos e2, if_neg (by omega), if_pos (by omega)]
      congr 1; omega
    · rw [if_neg e2]
      by_cases e3 : i < k ∨ l.length - 1 - i < k
      · rw [if_pos e3, if_pos (by omega)]
      · rw [if_neg e3, if_neg (by omega)]

theorem reverse_ok (b cap : Nat) (l : List Tp) (rest : List AV) (hl : l.length < 1000000000) :
    CallsG Tryz.prog (fnv n_slices_Reverse_apiTypeapiType) [(b, .cells (fl l rest))] [.lit (.slice (some ⟨b, 0, none⟩) l.length cap)] [] fun r o h => h = [(b, .cells (fl l.reverse rest))] := by
  refine callsG_of_wc ttok mixed Tryz.func79 rfl (by rfl) (by rfl) (Nat.le_of_ble_eq_true rfl) (Nat.le_of_ble_eq_true rfl) (by kernel_rfl) ?_
  have e0 : IntKind.i64.wrap ((l.length : Nat) - 1 : Int) = (l.length : Int) - 1 := wrap_sub (by omega) (by omega)
  refine ⟨{k : Nat // 2 * k ≤ l.length}, fun k => { vs := [(0, .v (.lit (.slice (some ⟨b, 0, none⟩) l.length cap))), (2, .v (.lit (.int .i64 (k.1 : Nat)))), (3, .v (.lit (.int .i64 ((l.length : Int) - 1 - (k.1 : Nat)))))], ow := [], hp := [(b, .cells (fl (sw l k.1) rest))] },
    fun k => l.length - k.1, ⟨0, Nat.zero_le _⟩, ⟨⟨rfl, rfl, ?_, trivial⟩, trivial, ?_⟩, ?_⟩
  · exact congrArg (fun n => SV.v (AV.lit (Value.int .i64 n))) (e0.trans (by simp))
  · show [(b, HO.cells (fl l rest))] = [(b, HO.cells (fl (sw l 0) rest))]
    rw [sw_0]
  rintro ⟨k, hk⟩
  have hsl := sw_len l k
  refine ⟨fun h => ?_, fun h => ?_⟩
  · have h : 2 * k + 1 < l.length := by
      have := of_decide_eq_true h
      simp only at this
      omega
    have h1 : k < (sw l k).length := by omega
    have h2 : l.length - 1 - k < (sw l k).length := by omega
    have ej : ((l.length : Int) - 1 - (k : Nat)).toNat = l.length - 1 - k := by omega
    have hfl := fl_len (sw l k) rest
    have a1 := fl_at rest (sw l k) (l.length - 1 - k) h2
    have a2 := fl_at rest (sw l k) k h1
    have b1 := fl_set rest (sw l k)[l.length - 1 - k] (sw l k) k h1
    have b2 := fl_set rest (sw l k)[k] ((sw l k).set k (sw l k)[l.length - 1 - k]) (l.length - 1 - k) (by simpa using h2)
    rw [sw_step h h1 h2] at b2
    refine ⟨by show (0 : Int) ≤ (l.length : Int) - 1 - (k : Nat); omega, by show (l.length : Int) - 1 - (k : Nat) < _; omega, ?_⟩
    have ek : (Int.toNat ((k : Nat) : Int)) = k := rfl
    refine ⟨0, _, rfl, by rw [ej, hfl]; omega, ?_⟩
    rw [Nat.zero_add, ej, a1]
    refine ⟨by omega, by show ((k : Nat) : Int) < _; omega, ?_⟩
    refine ⟨0, _, rfl, by show 0 + k * 4 + 4 ≤ (fl (sw l k) rest).length; rw [hfl]; omega, ?_⟩
    rw [Nat.zero_add, ek, a2]
    refine ⟨by omega, by show ((k : Nat) : Int) < _; omega, ?_⟩
    refine ⟨rfl, 0, _, rfl, by show 0 + k * 4 + 4 ≤ (fl (sw l k) rest).length; rw [hfl]; omega, ?_⟩
    have b1' : setAt (fl (sw l k) rest) (k * 4) (AV.agg (eTy (sw l k)[l.length - 1 - k]).cells).cells = fl ((sw l k).set k (sw l k)[l.length - 1 - k]) rest := b1
    have b2' : setAt (fl ((sw l k).set k (sw l k)[l.length - 1 - k]) rest) ((l.length - 1 - k) * 4) (AV.agg (eTy (sw l k)[k]).cells).cells = fl (sw l (k + 1)) rest := b2
    rw [Nat.zero_add, ek, b1']
    refine ⟨by show (0 : Int) ≤ (l.length : Int) - 1 - (k : Nat); omega, by show (l.length : Int) - 1 - (k : Nat) < _; omega, ?_⟩
    refine ⟨rfl, 0, _, rfl, by
      show 0 + Int.toNat ((l.length : Int) - 1 - (k : Nat)) * 4 + 4 ≤ (fl ((sw l k).set k (sw l k)[l.length - 1 - k]) rest).length
      rw [ej, fl_len, List.length_set]; omega, ?_⟩
    rw [Nat.zero_add, ej, b2']
    refine ⟨⟨k + 1, by omega⟩, (show l.length - (k + 1) < l.length - k by omega), ⟨rfl, ?_, ?_, trivial⟩, trivial, rfl⟩
    · exact congrArg (fun n => SV.v (AV.lit (Value.int .i64 n))) (wrap_succ (k := k) (by omega))
    · refine congrArg (fun n => SV.v (AV.lit (Value.int .i64 n))) ?_
      show IntKind.i64.wrap ((l.length : Int) - 1 - (k : Nat) - 1) = (l.length : Int) - 1 - ((k + 1 : Nat) : Int)
      rw [wrap_sub (by omega) (by omega)]; omega
  · have h : l.length ≤ 2 * k + 1 := by
      have := of_decide_eq_false h
      simp only at this
      omega
    show [(b, HO.cells (fl (sw l k) rest))] = _
    rw [sw_end h]
end Go.Proofs.YtkhnjmbgkakngaaGreatDoor

namespace Go.Proofs.YtkhnjmbgkakngaaGreatDoor
open Go Fp
set_option maxRecDepth 100000
set_option maxHeartbeats 8000000

theorem reverse_nil : ACall Tryz.prog n_slices_Reverse_apiTypeapiType [.lit (.slice none 0 0)] (.tup []) := by
  refine acall_of_wc ttok mixed Tryz.func79 rfl (by rfl) (Nat.le_of_ble_eq_true rfl) (by kernel_rfl) ?_
  refine ⟨Unit, fun _ => { vs := [(2, .v (.lit (.int .i64 0))), (3, .v (.lit (.int .i64 (-1))))], ow := [] }, fun _ => 0, (), ⟨⟨rfl, rfl, trivial⟩, trivial, rfl⟩, ?_⟩
  rintro ⟨⟩
  refine ⟨fun h => (by cases h), fun _ => ?_⟩
  exact rfl

/-- What a type is made of: what is given, and what it is given, the last first. -/
def spHd : Tp → Tp
  | .app x _ => spHd x
  | t => t
def spAr : Tp → List Tp
  | .app x b => b :: spAr x
  | _ => []
theorem spAr_len (t : Tp) : (spAr t).length ≤ t.sz := by
  induction t with
  | app x b ihx _ => simp only [spAr, List.length_cons, Tp.sz]; omega
  | _ => simp [spAr]

structure SpSt (t : Tp) where
  cur : Tp
  col : List Tp
  blk : Option (Nat × Nat × List AV)
  hd : spHd cur = spHd t
  ar : col ++ spAr cur = spAr t
  ok : match blk with
    | none => col = []
    | some (_, cap, rest) => col ≠ [] ∧ col.length ≤ cap ∧ rest.length = (cap - col.length) * 4

theorem fl_app (l : List Tp) (x : Tp) (rest rest' : List AV) : (fl l rest).take (l.length * 4) ++ ([eTy x].flatMap AV.cells ++ rest') = fl (l ++ [x]) rest' := by
  have h : ((eTys l).flatMap AV.cells).length = l.length * 4 := by
    have := fl_len l []
    simpa [fl] using this
  unfold fl
  rw [List.take_append_of_le_length (by rw [h]; omega), ← h, List.take_length, ← List.append_assoc]
  congr 1
  simp [eTys]

theorem spine_ok (t : Tp) (hs : t.sz < 1000000) : ACall Tryz.prog n_types_Spine [eTy t] (.tup [eTy (spHd t), .sl (eTys (spAr t).reverse)]) := by
  refine freeze2 (esz := 4) (uniT _) (fun x hx c hc => ?_) ?_
  · obtain ⟨y, _, rfl⟩ := List.mem_map.1 hx
    simp [eTy, AV.cells] at hc
    rcases hc with rfl | rfl | rfl | rfl <;> rfl
  refine callsG_of_wc ttok mixed Tryz.func44 rfl (by rfl) (by rfl) (Nat.le_of_ble_eq_true rfl) (Nat.le_of_ble_eq_true rfl) (by kernel_rfl) ?_
  have hal := spAr_len t
  refine ⟨SpSt t, fun s => { vs := [(1, .box 0 (eTy s.cur)), (2, .box 0 (eTy .no)), (4, .v (.lit (match s.blk with
      | none => .slice none 0 0
      | some (b, cap, _) => .slice (some ⟨b, 0, none⟩) s.col.length cap)))], ow := [], hp := (match s.blk with
      | none => []
      | some (b, _, rest) => [(b, .cells (fl s.col rest))]) }, fun s => s.cur.sz, ⟨t, [], none, rfl, rfl, rfl⟩, ⟨⟨rfl, rfl, .inl rfl, trivial⟩, trivial, rfl⟩, ?_⟩
  rintro ⟨cur, col, blk, hd, ar, ok⟩
  have hlen : col.length + (spAr cur).length = (spAr t).length := by rw [← ar, List.length_append]
  have hcl : (eTys col).length = col.length := by simp [eTys]
  cases blk with
  | none =>
    have ok : col = [] := ok
    subst ok
    refine ⟨fun h => ?_, fun h => ?_⟩
    · obtain ⟨x, b, rfl⟩ := Tp.is_app (t := cur) (by simpa using h)
      refine ⟨_, by decide, rfl, rfl, ?_⟩
      refine .inl ⟨_, own_ok b, ?_⟩
      refine ⟨rfl, by simp, by simp, uniT [b], rfl, rfl, fun b' cap' zs h1 h2 => ?_⟩
      refine ⟨_, by decide, rfl, rfl, ?_⟩
      refine ⟨⟨x, [b], some (b', cap', zs), hd, ar, by simp, h1, h2⟩, by simp only [Tp.sz]; have := sz_pos b; omega, ⟨rfl, rfl, rfl, trivial⟩, trivial, ?_⟩
      show [(b', HO.cells ([eTy b].flatMap AV.cells ++ zs))] = [(b', HO.cells (fl [b] zs))]
      rfl
    · have hna : ¬ cur.form = 4 := by simpa using h
      have e1 : spHd cur = cur := by cases cur <;> first | rfl | exact absurd rfl hna
      have e2 : spAr cur = [] := by cases cur <;> first | rfl | exact absurd rfl hna
      rw [e1] at hd
      rw [e2, List.append_nil] at ar
      refine .inl ⟨_, reverse_nil, ?_⟩
      refine .inl ⟨_, own_ok cur, ?_⟩
      refine ⟨rfl, .inl ⟨?_, ?_, rfl⟩⟩
      · rw [← ar]; rfl
      · rw [← hd]; rfl
  | some q =>
    obtain ⟨b0, cap, rest⟩ := q
    obtain ⟨ok0, ok1, ok2⟩ := ok
    refine ⟨fun h => ?_, fun h => ?_⟩
    · obtain ⟨x, b, rfl⟩ := Tp.is_app (t := cur) (by simpa using h)
      refine ⟨_, by decide, rfl, rfl, ?_⟩
      refine .inl ⟨_, own_ok b, ?_⟩
      refine ⟨rfl, by simp, by simp; omega, uniT [b], 0, _, rfl, ok1, ?_, fun b' cap' zs h1 h2 => ?_⟩
      · show (fl col rest).length = cap * 4
        rw [fl_len, ok2, ← Nat.add_mul]; congr 1; omega
      refine ⟨_, by decide, rfl, rfl, ?_⟩
      refine ⟨⟨x, col ++ [b], some (b', cap', zs), hd, by rw [List.append_assoc]; exact ar, by simp, by simpa using h1, by simpa using h2⟩, by simp only [Tp.sz]; have := sz_pos b; omega, ⟨rfl, rfl, ?_, trivial⟩, trivial, ?_⟩
      · show SV.v (AV.lit (.slice (some ⟨b', 0, none⟩) (col.length + 1) cap')) = SV.v (AV.lit (.slice (some ⟨b', 0, none⟩) (col ++ [b]).length cap'))
        rw [List.length_append]; rfl
      · show [(b', HO.cells ((fl col rest).take (col.length * 4) ++ ([eTy b].flatMap AV.cells ++ zs)))] = [(b', HO.cells (fl (col ++ [b]) zs))]
        rw [fl_app]
    · have hna : ¬ cur.form = 4 := by simpa using h
      have e1 : spHd cur = cur := by cases cur <;> first | rfl | exact absurd rfl hna
      have e2 : spAr cur = [] := by cases cur <;> first | rfl | exact absurd rfl hna
      rw [e1] at hd
      rw [e2, List.append_nil] at ar
      refine .inr ⟨rfl, [0], _, [], _, rfl, by simp, rfl, reverse_ok b0 cap col rest (by omega), ?_⟩
      rintro _ _ _ rfl
      refine .inl ⟨_, own_ok cur, ?_⟩
      refine ⟨rfl, .inr ⟨b0, cap, rest, ?_, ?_, ?_⟩⟩
      · simp [eTys, ← ar]; exact ok1
      · have hl : (eTys col.reverse).length = col.length := by simp [eTys]
        rw [← hd, ← ar, hl]; rfl
      · rw [← ar]; rfl
end Go.Proofs.YtkhnjmbgkakngaaGreatDoor

namespace Go.Proofs.YtkhnjmbgkakngaaGreatDoor
open Go Fp
set_option maxRecDepth 10000
set_option maxHeartbeats 4000000
set_option linter.unusedVariables false
set_option linter.unusedSimpArgs false

/-- No TAll within. -/
def nA : Tp → Prop
  | .app a b => nA a ∧ nA b
  | .all _ _ => False
  | _ => True
theorem substN_ok (ps : Env') (hm : ps.length < 1000000) : ∀ (t : Tp), nA t → substSays t ps := by
  intro t
  have fin : ∀ t : Tp, ¬ t.form = 2 → ¬ t.form = 4 → ¬ t.form = 5 → substSays t ps := fun t h2 h4 h5 => by
    have es : sub t ps = t := by cases t <;> first | rfl | exact absurd rfl h2 | exact absurd rfl h4 | exact absurd rfl h5
    unfold substSays
    rw [es]
    refine acall_of_wc ttok mixed Tryz.func78 rfl (by rfl) (Nat.le_of_ble_eq_true rfl) (by kernel_rfl) ?_
    refine ⟨fun h => absurd (by simpa using h) h2, fun _ => ?_⟩
    refine ⟨fun h => absurd (by simpa using h) h4, fun _ => ?_⟩
    refine ⟨fun h => absurd (by simpa using h) h5, fun _ => ?_⟩
    refine .inl ⟨_, own_ok t, ?_⟩
    exact rfl
  induction t with
  | no => intro _; exact fin _ (by decide) (by decide) (by decide)
  | mt n => intro _; exact fin _ (by simp [Tp.form]) (by simp [Tp.form]) (by simp [Tp.form])
  | con s => intro _; exact fin _ (by simp [Tp.form]) (by simp [Tp.form]) (by simp [Tp.form])
  | all s a ih => intro h; exact h.elim
  | var x =>
    intro _
    refine acall_of_wc ttok mixed Tryz.func78 rfl (by rfl) (Nat.le_of_ble_eq_true rfl) (by kernel_rfl) ?_
    refine ⟨fun _ => ?_, fun h => (by cases h)⟩
    refine .inl ⟨_, index_ok (l := ps.map (fun p : ByteArray × Tp => p.1)) (s := x) (by simp; omega), ?_⟩
    rcases look_ix (x := x) (ps := ps) with ⟨h1, h2⟩ | ⟨k, hk, h1, h2⟩
    · have es : sub (.var x) ps = .var x := by simp [sub, h1]
      rw [es, ixI_no h2]
      refine ⟨fun h => (by cases h), fun _ => ?_⟩
      refine .inl ⟨_, own_ok (.var x), ?_⟩
      exact rfl
    · have es : sub (.var x) ps = ps[k].2 := by simp [sub, h2]
      rw [es, h1]
      refine ⟨fun _ => ?_, fun h => (by simp at h)⟩
      refine ⟨_, by omega, eB_get hk, rfl, ?_⟩
      refine .inl ⟨_, own_ok _, ?_⟩
      exact rfl
  | app a b iha ihb =>
    intro h
    refine acall_of_wc ttok mixed Tryz.func78 rfl (by rfl) (Nat.le_of_ble_eq_true rfl) (by kernel_rfl) ?_
    refine ⟨fun h => (by cases h), fun _ => ?_⟩
    refine ⟨fun _ => ?_, fun h => (by cases h)⟩
    refine ⟨_, by decide, rfl, rfl, ?_⟩
    refine .inl ⟨_, iha h.1, ?_⟩
    refine ⟨_, by decide, rfl, rfl, ?_⟩
    refine .inl ⟨_, ihb h.2, ?_⟩
    refine .inl ⟨_, apply_mk _ _, ?_⟩
    exact rfl
theorem rsubstN_ok (ps : Env') (hm : ps.length < 1000000) : ∀ (t : Tp), nA t → rsubstSays t ps := by
  intro t
  have fin : ∀ t : Tp, ¬ t.form = 2 → ¬ t.form = 4 → ¬ t.form = 5 → rsubstSays t ps := fun t h2 h4 h5 => by
    have es : sub t ps = t := by cases t <;> first | rfl | exact absurd rfl h2 | exact absurd rfl h4 | exact absurd rfl h5
    unfold rsubstSays
    rw [es]
    refine acall_of_wc ttok mixed Tryz.func73 rfl (by rfl) (Nat.le_of_ble_eq_true rfl) (by kernel_rfl) ?_
    refine ⟨fun h => absurd (by simpa using h) h2, fun _ => ?_⟩
    refine ⟨fun h => absurd (by simpa using h) h4, fun _ => ?_⟩
    refine ⟨fun _ => ?_, fun h => absurd (by simpa using h) h5⟩
    exact rfl
  induction t with
  | no => intro _; exact fin _ (by decide) (by decide) (by decide)
  | mt n => intro _; exact fin _ (by simp [Tp.form]) (by simp [Tp.form]) (by simp [Tp.form])
  | con s => intro _; exact fin _ (by simp [Tp.form]) (by simp [Tp.form]) (by simp [Tp.form])
  | all s a ih => intro h; exact h.elim
  | var x =>
    intro _
    refine acall_of_wc ttok mixed Tryz.func73 rfl (by rfl) (Nat.le_of_ble_eq_true rfl) (by kernel_rfl) ?_
    refine ⟨fun _ => ?_, fun h => (by cases h)⟩
    refine .inl ⟨_, at_ok (l := ps.map (fun p : ByteArray × Tp => p.1)) (s := x) (by simp; omega), ?_⟩
    rcases look_ix (x := x) (ps := ps) with ⟨h1, h2⟩ | ⟨k, hk, h1, h2⟩
    · have es : sub (.var x) ps = .var x := by simp [sub, h1]
      rw [es, ixI_no h2]
      refine ⟨fun h => (by cases h), fun _ => ?_⟩
      exact rfl
    · have es : sub (.var x) ps = ps[k].2 := by simp [sub, h2]
      rw [es, h1]
      refine ⟨fun _ => ?_, fun h => (by simp at h)⟩
      refine ⟨_, by omega, eB_get hk, rfl, ?_⟩
      exact rfl
  | app a b iha ihb =>
    intro h
    refine acall_of_wc ttok mixed Tryz.func73 rfl (by rfl) (Nat.le_of_ble_eq_true rfl) (by kernel_rfl) ?_
    refine ⟨fun h => (by cases h), fun _ => ?_⟩
    refine ⟨fun _ => ?_, fun h => (by cases h)⟩
    refine ⟨_, by decide, rfl, rfl, ?_⟩
    refine .inl ⟨_, iha h.1, ?_⟩
    refine ⟨_, by decide, rfl, rfl, ?_⟩
    refine .inl ⟨_, ihb h.2, ?_⟩
    refine .inl ⟨_, app_ok _ _, ?_⟩
    exact rfl

theorem getPr {x : List PR} {k : Nat} (h : k < x.length) : (ePrs x)[k]? = some (ePr x[k]) := by simp [ePrs, h]
theorem uniPr (l : List PR) : Uni 5 (ePrs l) := fun a ha => by obtain ⟨x, _, rfl⟩ := List.mem_map.1 ha; rfl
theorem ePrs_snoc (l : List PR) (p : PR) : ePrs l ++ [ePr p] = ePrs (l ++ [p]) := by simp [ePrs]
noncomputable def putP (ps : Env') (p : PR) : PR := ⟨p.cls, sub p.ty ps⟩
theorem put_ok' (p : PR) (ps : Env') (hm : ps.length < 1000000) (hp : nA p.ty) : ACall Tryz.prog n_entail_put [ePr p, .sl (eN ps), .sl (eB ps)] (ePr (putP ps p)) := by
  refine acall_of_wcx ttok mixed Tryz.func43 rfl (by rfl) (Nat.le_of_ble_eq_true rfl) (by kernel_rfl) ?_
  have h := substN_ok ps hm p.ty hp
  unfold substSays at h
  refine .inl ⟨_, h, ?_⟩
  refine ⟨by kernel_rfl, ?_⟩
  exact rfl

/-- The document's Spine. -/
def args (t : Tp) : List Tp := (spAr t).reverse
theorem args_app (a b : Tp) : args (.app a b) = args a ++ [b] := by simp [args, spAr]
theorem args_len (t : Tp) : (args t).length ≤ t.sz := by rw [args, List.length_reverse]; exact spAr_len t
theorem rspine_ok : ∀ (t : Tp), t.sz < 1000000 → ACall Tryz.prog n_fugueref12_spine [eTy t] (.tup [eTy (spHd t), .sl (eTys (args t))]) := by
  intro t
  have fin : ∀ t : Tp, (∀ a b, t ≠ .app a b) → ACall Tryz.prog n_fugueref12_spine [eTy t] (.tup [eTy (spHd t), .sl (eTys (args t))]) := fun t h => by
    have e1 : spHd t = t ∧ args t = [] ∧ t.form ≠ 4 := by cases t <;> first | exact ⟨rfl, rfl, by simp [Tp.form]⟩ | exact absurd rfl (h _ _)
    rw [e1.1, e1.2.1]
    refine acall_of_wcx ttok mixed Tryz.func72 rfl (by rfl) (Nat.le_of_ble_eq_true rfl) (by kernel_rfl) ?_
    refine ⟨fun hbs => ?_, fun hbs => ?_⟩ <;> first | (exfalso; revert hbs; (simp [e1.2.2]); done) | skip
    exact rfl
  induction t with
  | app a b iha ihb =>
    intro h
    simp only [Tp.sz] at h
    refine acall_of_wcx ttok mixed Tryz.func72 rfl (by rfl) (Nat.le_of_ble_eq_true rfl) (by kernel_rfl) ?_
    refine ⟨fun hbs => ?_, fun hbs => ?_⟩ <;> first | (exfalso; revert hbs; (simp [Tp.form]); done) | skip
    refine ⟨_, by decide, rfl, rfl, ?_⟩
    refine .inl ⟨_, iha (by omega), ?_⟩
    have hal := args_len a
    refine ⟨by simp [eTys]; omega, fun x hx => by simp at hx, uniT _, ?_⟩
    refine ⟨_, by decide, rfl, rfl, ?_⟩
    refine ⟨by simp [eTys]; omega, uniT _, uni1 rfl, ?_⟩
    refine ⟨by kernel_rfl, ?_⟩
    show AV.tup [_, .sl ([] ++ eTys (args a) ++ [eTy b])] = _
    rw [args_app]
    simp [eTys, spHd]
    rfl
  | _ => intro _; exact fin _ (by simp)

theorem zip_fst : ∀ {vs : List ByteArray} {as' : List Tp}, as'.length = vs.length → (vs.zip as').map (·.1) = vs
  | [], [], _ => rfl
  | v :: vs, a :: as', h => by simp only [List.zip_cons_cons, List.map_cons]; rw [zip_fst (by simpa using h)]
  | [], _ :: _, h => by simp at h
  | _ :: _, [], h => by simp at h
theorem zip_snd : ∀ {vs : List ByteArray} {as' : List Tp}, as'.length = vs.length → (vs.zip as').map (·.2) = as'
  | [], [], _ => rfl
  | v :: vs, a :: as', h => by simp only [List.zip_cons_cons, List.map_cons]; rw [zip_snd (by simpa using h)]
  | [], _ :: _, h => by simp at h
  | _ :: _, [], h => by simp at h
structure InOk (y : In) : Prop where
  plain : ∀ q ∈ y.prs, nA q.ty
  few : y.prs.length < 100000
  vars : y.vars.length < 1000
noncomputable def needsE (y : In) (t : Tp) : Option (List PR) := if (spHd t).form = 3 ∧ (spHd t).nam = y.con ∧ (args t).length = y.vars.length then some (y.prs.map (putP (y.vars.zip (args t)))) else none
theorem takePr {l : List PR} (f : PR → PR) {k : Nat} (h : k < l.length) : ePrs ((l.take k).map f) ++ [ePr (f l[k])] = ePrs ((l.take (k + 1)).map f) := by
  rw [List.take_succ_eq_append_getElem h, List.map_append, ePrs, ePrs, List.map_append]; rfl
theorem needsE_ok (y : In) (hy : InOk y) (t : Tp) (ht : t.sz < 1000000) : ACall Tryz.prog n_entail_needs [eIn y, eTy t] (.tup [.sl (ePrs ((needsE y t).getD [])), .sb (needsE y t).isSome]) := by
  refine acall_of_wcx ttok mixed Tryz.func69 rfl (by rfl) (Nat.le_of_ble_eq_true rfl) (by kernel_rfl) ?_
  refine .inl ⟨_, spine_ok t ht, ?_⟩
  refine ⟨fun h1 => ?_, fun h1 => ?_⟩
  · have h1 : (spHd t).form = 3 := by simpa using h1
    refine ⟨fun h2 => ?_, fun h2 => ?_⟩
    · have h2 : (spHd t).nam = y.con := by simpa using h2
      have hal := args_len t
      refine ⟨fun h3 => ?_, fun h3 => ?_⟩
      · have h3 : ¬ (args t).length = y.vars.length := by simp [eTys, eSs] at h3; simp [args]; omega
        have e : needsE y t = none := if_neg (fun h => h3 h.2.2)
        rw [e]; exact rfl
      · have h3 : (args t).length = y.vars.length := by simp [eTys, eSs] at h3; simp [args]; omega
        have e : needsE y t = some (y.prs.map (putP (y.vars.zip (args t)))) := if_pos ⟨h1, h2, h3⟩
        rw [e]
        have e1 : eSs y.vars = eN (y.vars.zip (args t)) := by unfold eN; rw [zip_fst h3]
        have e2 : eTys (args t) = eB (y.vars.zip (args t)) := by unfold eB; rw [zip_snd h3]
        have hzl : (y.vars.zip (args t)).length < 1000000 := by rw [List.length_zip]; have := hy.vars; omega
        refine ⟨{k : Nat // k ≤ y.prs.length}, fun k => { vs := [(2, .box 0 (eIn y)), (7, .v (.sl (eTys (args t)))), (8, .v (.sl (ePrs ((y.prs.take k.1).map (putP (y.vars.zip (args t))))))), (35, .v (.sl (ePrs y.prs))), (36, sv (y.prs.length : Nat)), (37, sv (k.1 : Nat))], ow := [(8, 0, 6)] },
          fun k => y.prs.length - k.1, ⟨0, Nat.zero_le _⟩, ⟨⟨rfl, rfl, rfl, rfl, svc (by simp [ePrs]), rfl, trivial⟩, ⟨trivial, trivial⟩, rfl⟩, ?_⟩
        rintro ⟨k, hk⟩
        have hfew := hy.few
        refine ⟨fun h => ?_, fun h => ?_⟩
        · have h : k < y.prs.length := by have h : (k : Int) < (y.prs.length : Nat) := of_decide_eq_true h; omega
          refine ⟨ePr y.prs[k], by omega, getPr h, rfl, ?_⟩
          have hput := put_ok' y.prs[k] (y.vars.zip (args t)) hzl (hy.plain _ (List.getElem_mem h))
          rw [← e1, ← e2] at hput
          refine .inl ⟨_, hput, ?_⟩
          refine ⟨by simp [ePrs]; omega, uniPr _, uni1 rfl, ?_⟩
          refine ⟨⟨k + 1, h⟩, (show y.prs.length - (k + 1) < y.prs.length - k by omega), ⟨rfl, rfl, by show _ = SV.v (.sl (ePrs ((y.prs.take (k + 1)).map _))); rw [← takePr _ h]; rfl, rfl, rfl, svc (wrap_succ (k := k) (by omega)), trivial⟩, ⟨rfl, trivial⟩, rfl⟩
        · have h : k = y.prs.length := by have h : ¬ (k : Int) < (y.prs.length : Nat) := of_decide_eq_false h; omega
          subst h
          show AV.tup [.sl (ePrs ((y.prs.take y.prs.length).map _)), _] = _
          rw [List.take_length]
          rfl
    · have h2 : ¬ (spHd t).nam = y.con := by simpa using h2
      have e : needsE y t = none := if_neg (fun h => h2 h.2.1)
      rw [e]; exact rfl
  · have h1 : ¬ (spHd t).form = 3 := by simpa using h1
    have e : needsE y t = none := if_neg (fun h => h1 h.1)
    rw [e]; exact rfl

/-- The instance by which a predicate may hold, and what it needs. -/
noncomputable def instE (is : List In) (x : PR) : Option (Nat × List PR) := if (spHd x.ty).form = 3 then
    match instI is x.cls (spHd x.ty).nam with
    | some n => match is[n]? with
      | some y => (needsE y x.ty).map fun l => (n, l)
      | none => none
    | none => none
  else none
theorem instI_lt {is : List In} {c d : ByteArray} {n : Nat} (h : instI is c d = some n) : ∃ h : n < is.length, is[n].cls = c ∧ is[n].con = d := by
  unfold instI at h
  obtain ⟨h1, h2, _⟩ := List.findIdx?_eq_some_iff_getElem.1 h
  simp only [instP, Bool.and_eq_true, decide_eq_true_eq] at h2
  exact ⟨h1, h2⟩
theorem instE_ok (m : List Cl) (mm : List (AV × AV)) (is : List In) (hi : is.length < 20000) (hy : ∀ y ∈ is, InOk y) (x : PR) (hx : x.ty.sz < 1000000) :
    ∃ n0 : Int, ACall Tryz.prog n_entail_inst [eEnv m mm is, ePr x] (.tup [.lit (.int .i64 n0), .sl (ePrs ((instE is x).map (·.2) |>.getD [])), .sb (instE is x).isSome]) ∧ ∀ n l, instE is x = some (n, l) → n0 = (n : Nat) := by
  by_cases hf : (spHd x.ty).form = 3
  · cases hI : instI is x.cls (spHd x.ty).nam with
    | none =>
      have e : instE is x = none := by unfold instE; rw [if_pos hf, hI]
      refine ⟨0, ?_, fun n l h => by rw [e] at h; cases h⟩
      rw [e]
      refine acall_of_wcx ttok mixed Tryz.func36 rfl (by rfl) (Nat.le_of_ble_eq_true rfl) (by kernel_rfl) ?_
      refine .inl ⟨_, spine_ok x.ty hx, ?_⟩
      refine ⟨fun hbs => ?_, fun hbs => ?_⟩ <;> first | (exfalso; revert hbs; (simp [hf]); done) | skip
      refine .inl ⟨_, inst_ok m mm is (by omega) x.cls (spHd x.ty).nam, ?_⟩
      rw [hI]
      refine ⟨fun hbs => ?_, fun hbs => ?_⟩ <;> first | (exfalso; revert hbs; (simp); done) | skip
      exact rfl
    | some n =>
      obtain ⟨hn, hn1, hn2⟩ := instI_lt hI
      have e : instE is x = (needsE is[n] x.ty).map fun l => (n, l) := by unfold instE; rw [if_pos hf, hI]; simp only [List.getElem?_eq_getElem hn]
      refine ⟨(n : Nat), ?_, fun n' l h => by rw [e] at h; obtain ⟨l', _, h2⟩ := Option.map_eq_some_iff.1 h; injection h2 with h2 h3; rw [h2]⟩
      have e2 : ((instE is x).map (·.2)).getD [] = (needsE is[n] x.ty).getD [] := by rw [e]; cases needsE is[n] x.ty <;> rfl
      have e3 : (instE is x).isSome = (needsE is[n] x.ty).isSome := by rw [e]; cases needsE is[n] x.ty <;> rfl
      rw [e2, e3]
      refine acall_of_wcx ttok mixed Tryz.func36 rfl (by rfl) (Nat.le_of_ble_eq_true rfl) (by kernel_rfl) ?_
      refine .inl ⟨_, spine_ok x.ty hx, ?_⟩
      refine ⟨fun hbs => ?_, fun hbs => ?_⟩ <;> first | (exfalso; revert hbs; (simp [hf]); done) | skip
      refine .inl ⟨_, inst_ok m mm is (by omega) x.cls (spHd x.ty).nam, ?_⟩
      rw [hI]
      refine ⟨fun hbs => ?_, fun hbs => ?_⟩ <;> first | (exfalso; revert hbs; (simp); done) | skip
      refine .inl ⟨_, at_ok' m mm is n hn (by omega), ?_⟩
      refine .inl ⟨_, needsE_ok is[n] (hy _ (List.getElem_mem hn)) x.ty hx, ?_⟩
      refine ⟨by kernel_rfl, ?_⟩
      exact rfl
  · have e : instE is x = none := if_neg hf
    refine ⟨0, ?_, fun n l h => by rw [e] at h; cases h⟩
    rw [e]
    refine acall_of_wcx ttok mixed Tryz.func36 rfl (by rfl) (Nat.le_of_ble_eq_true rfl) (by kernel_rfl) ?_
    refine .inl ⟨_, spine_ok x.ty hx, ?_⟩
    refine ⟨fun hbs => ?_, fun hbs => ?_⟩ <;> first | (exfalso; revert hbs; (simp [hf]); done) | skip
    exact rfl
end Go.Proofs.YtkhnjmbgkakngaaGreatDoor

namespace Go.Proofs.YtkhnjmbgkakngaaGreatDoor
open Go Fp
set_option maxRecDepth 10000
set_option maxHeartbeats 4000000
set_option linter.unusedVariables false
set_option linter.unusedSimpArgs false

/-- Evidence. -/
inductive Ev where
  | mk (f n : Int) (ks : List Ev)
noncomputable def eEv (v : Ev) : AV := Ev.rec (motive_1 := fun _ => AV) (motive_2 := fun _ => List AV) (fun f n _ ih => .agg [.lit (.int .i64 f), .lit (.int .i64 n), .sl ih]) [] (fun _ _ h t => h :: t) v
noncomputable def eEvs (l : List Ev) : List AV := Ev.rec_1 (motive_1 := fun _ => AV) (motive_2 := fun _ => List AV) (fun f n _ ih => .agg [.lit (.int .i64 f), .lit (.int .i64 n), .sl ih]) [] (fun _ _ h t => h :: t) l
theorem eEvs_map (l : List Ev) : eEvs l = l.map eEv := by
  induction l with
  | nil => rfl
  | cons v r ih => rw [List.map_cons, ← ih]; rfl
theorem uniEv (l : List Ev) : Uni 3 (eEvs l) := fun a ha => by
  rw [eEvs_map] at ha
  obtain ⟨x, _, rfl⟩ := List.mem_map.1 ha
  cases x; rfl
theorem eEvs_snoc (l : List Ev) (v : Ev) : eEvs l ++ [eEv v] = eEvs (l ++ [v]) := by simp [eEvs_map]
def fE : Ev → Int
  | .mk f _ _ => f
def nE : Ev → Int
  | .mk _ n _ => n
def kE : Ev → List Ev
  | .mk _ _ l => l
noncomputable abbrev eV (v : Ev) : AV := .agg [.lit (.int .i64 (fE v)), .lit (.int .i64 (nE v)), .sl (eEvs (kE v))]
theorem eV_eq (v : Ev) : eV v = eEv v := by cases v; rfl
theorem eEvs_snocV (l : List Ev) (v : Ev) : eEvs l ++ [eV v] = eEvs (l ++ [v]) := by rw [eV_eq, eEvs_snoc]
theorem eEvs_len (l : List Ev) : (eEvs l).length = l.length := by simp [eEvs_map]

theorem smb_nA : ∀ (a b : Tp), nA a → nA b → smb a b [] [] = decide (a = b)
  | .app a b, .app c d, h1, h2 => by
    simp only [smb, smb_nA a c h1.1 h2.1, smb_nA b d h1.2 h2.2, Tp.app.injEq, Bool.decide_and]
  | .var s, .var r, _, _ => by
    have e : ∀ s, pl [] s = -1 := fun s => by simp [pl, memb]
    simp [smb, e]
  | .con s, .con r, _, _ => by simp [smb]
  | .mt n, .mt m, _, _ => by simp [smb]
  | .no, .no, _, _ => by simp [smb]
  | .no, .mt _, _, _ | .no, .var _, _, _ | .no, .con _, _, _ | .no, .app _ _, _, _ => by simp [smb]
  | .mt _, .no, _, _ | .mt _, .var _, _, _ | .mt _, .con _, _, _ | .mt _, .app _ _, _, _ => by simp [smb]
  | .var _, .no, _, _ | .var _, .mt _, _, _ | .var _, .con _, _, _ | .var _, .app _ _, _, _ => by simp [smb]
  | .con _, .no, _, _ | .con _, .mt _, _, _ | .con _, .var _, _, _ | .con _, .app _ _, _, _ => by simp [smb]
  | .app _ _, .no, _, _ | .app _ _, .mt _, _, _ | .app _ _, .var _, _, _ | .app _ _, .con _, _, _ => by simp [smb]

def wrapV (v : Ev) (path : List Int) : Ev := path.foldl (fun v k => .mk 2 k [v]) v
def byG (m : List Cl) (x : PR) : Nat → List PR → Option Ev
  | _, [] => none
  | i, g :: r => if ((pathB m g.cls x.cls).1 && decide (g.ty = x.ty)) = true then some (wrapV (.mk 1 (i : Nat) []) (pathB m g.cls x.cls).2) else byG m x (i + 1) r
noncomputable def kidsO (f : PR → Option Ev) : List PR → Option (List Ev)
  | [] => some []
  | q :: r => match f q with
    | none => none
    | some v => (kidsO f r).map (v :: ·)
noncomputable def byE (m : List Cl) (is : List In) (given : List PR) : Nat → PR → Option Ev
  | 0, _ => none
  | n + 1, x => match byG m x 0 given with
    | some v => some v
    | none => match instE is x with
      | none => none
      | some (k, l) => (kidsO (byE m is given n) l).map fun ks => .mk 3 (k : Nat) ks
abbrev zEv : Ev := .mk 0 0 []
noncomputable def evR : Option Ev → AV
  | some v => .tup [eV v, .lit (.int .i64 0)]
  | none => .tup [eV zEv, .lit (.int .i64 33)]

/-- An instance under predicates of its variables. -/
structure WIn (y : In) : Prop where
  ok : InOk y
  var : ∀ q ∈ y.prs, ∃ s ∈ y.vars, q.ty = .var s
theorem args_nA : ∀ {t : Tp}, nA t → ∀ a ∈ args t, nA a
  | .app x b, h, a, ha => by
    rw [args_app] at ha
    rcases List.mem_append.1 ha with ha | ha
    · exact args_nA h.1 a ha
    · simp at ha; subst ha; exact h.2
  | .no, _, a, ha | .mt _, _, a, ha | .var _, _, a, ha | .con _, _, a, ha => by simp [args, spAr] at ha
theorem args_sz : ∀ {t : Tp}, ∀ a ∈ args t, a.sz < t.sz
  | .app x b, a, ha => by
    rw [args_app] at ha
    simp only [Tp.sz]
    rcases List.mem_append.1 ha with ha | ha
    · have := args_sz a ha; omega
    · simp at ha; subst ha; have := sz_pos x; omega
  | .no, a, ha | .mt _, a, ha | .var _, a, ha | .con _, a, ha | .all _ _, a, ha => by simp [args, spAr] at ha
theorem look_zip {s : ByteArray} : ∀ {vs : List ByteArray} {as' : List Tp}, as'.length = vs.length → s ∈ vs → ∃ a ∈ as', look s (vs.zip as') = some a
  | [], _, _, h => by simp at h
  | _ :: _, [], h, _ => by simp at h
  | v :: vs, a :: as', h, hs => by
    by_cases hv : v = s
    · exact ⟨a, List.mem_cons_self, by simp [look, hv]⟩
    · obtain ⟨a', h1, h2⟩ := look_zip (s := s) (vs := vs) (as' := as') (by simpa using h) ((List.mem_cons.1 hs).resolve_left (fun e => hv e.symm))
      exact ⟨a', List.mem_cons_of_mem _ h1, by simp [look, hv, h2]⟩
theorem needs_kids {y : In} (hy : WIn y) {t : Tp} (ht : nA t) {l : List PR} (h : needsE y t = some l) : ∀ q ∈ l, nA q.ty ∧ q.ty.sz < t.sz := by
  unfold needsE at h
  split at h
  · rename_i hc
    injection h with h; subst h
    intro q hq
    obtain ⟨p, hp, rfl⟩ := List.mem_map.1 hq
    obtain ⟨s, hs, e⟩ := hy.var p hp
    obtain ⟨a, ha, h2⟩ := look_zip (s := s) hc.2.2 hs
    have : (putP (y.vars.zip (args t)) p).ty = a := by simp [putP, e, sub, h2]
    rw [this]
    exact ⟨args_nA ht a ha, args_sz a ha⟩
  · cases h
theorem inst_kids {is : List In} (hy : ∀ y ∈ is, WIn y) {x : PR} (hx : nA x.ty) {n : Nat} {l : List PR} (h : instE is x = some (n, l)) : l.length < 100000 ∧ n < is.length ∧ ∀ q ∈ l, nA q.ty ∧ q.ty.sz < x.ty.sz := by
  unfold instE at h
  split at h
  · split at h
    · rename_i n' hn
      obtain ⟨h1, _, _⟩ := instI_lt hn
      split at h
      · rename_i y hyy
        obtain ⟨l', h2, h3⟩ := Option.map_eq_some_iff.1 h
        injection h3 with h3 h4
        subst h3; subst h4
        have hm := List.mem_of_getElem? hyy
        refine ⟨?_, h1, needs_kids (hy y hm) hx h2⟩
        unfold needsE at h2
        split at h2
        · injection h2 with h2; subst h2; rw [List.length_map]; exact (hy y hm).ok.few
        · cases h2
      · cases h
    · cases h
  · cases h

theorem getIs {x : List Int} {k : Nat} (h : k < x.length) : (eIs x)[k]? = some (.lit (.int .i64 x[k])) := by simp [eIs, h]
theorem wrapV_snoc (v : Ev) (p : List Int) {k : Nat} (h : k < p.length) : wrapV v (p.take (k + 1)) = .mk 2 p[k] [wrapV v (p.take k)] := by
  unfold wrapV
  rw [List.take_succ_eq_append_getElem h, List.foldl_append]; rfl
theorem bfs_len {σ : Type} (m : List Cl) (step : σ → Way → Bool × σ) (Q : σ → Prop) (M : Nat) (hstep : ∀ s w, Q s → w.2.length ≤ M → Q (step s w).2) : ∀ (n : Nat) (q : List Way) (sn : List ByteArray) (s : σ), Q s → (∀ w ∈ q, w.2.length + n ≤ M) → Q (bfs m step n q sn s) := by
  have vis : ∀ (path : List Int) (N : Nat), path.length + 1 + N ≤ M → ∀ (xs : List ByteArray) (i : Nat) (q : List Way) (sn : List ByteArray) (s : σ), Q s → (∀ w ∈ q, w.2.length + N ≤ M) → Q (visit m step path i xs q sn s).1.2.2 ∧ ∀ w ∈ (visit m step path i xs q sn s).1.1, w.2.length + N ≤ M := by
    intro path N hp xs
    induction xs with
    | nil => intro i q sn s h1 h2; exact ⟨h1, h2⟩
    | cons x xs ih =>
      intro i q sn s h1 h2
      rw [visit]
      split
      · exact ih _ _ _ _ h1 h2
      · have h3 : Q (step s (x, path ++ [(i : Int)])).2 := hstep s _ h1 (by simp; omega)
        split
        · exact ⟨h3, h2⟩
        · exact ih _ _ _ _ h3 (fun w hw => by
            rcases List.mem_append.1 hw with hw | hw
            · exact h2 w hw
            · simp at hw; subst hw; simp; omega)
  intro n
  induction n with
  | zero => intro q sn s h1 _; exact h1
  | succ n ih =>
    intro q sn s h1 h2
    cases q with
    | nil => exact h1
    | cons w q =>
      have hv := vis w.2 n (by have := h2 w List.mem_cons_self; omega) (sups m w.1) 0 q sn s h1 (fun w hw => by have := h2 w (List.mem_cons_of_mem _ hw); omega)
      rw [bfs]
      split
      · rename_i q' sn' s' he
        rw [he] at hv
        exact hv.1
      · rename_i q' sn' s' he
        rw [he] at hv
        exact ih _ _ _ hv.1 hv.2
theorem pathB_len (m : List Cl) (frm to : ByteArray) : (pathB m frm to).2.length ≤ m.length + 1 := by
  unfold pathB
  split
  · simp
  · refine bfs_len m (stepP to) (fun s => s.2.length ≤ m.length + 1) (m.length + 1) (fun s w h1 h2 => ?_) _ _ _ _ (by simp) (fun w hw => by simp at hw; subst hw; simp)
    unfold stepP
    split
    · exact h2
    · exact h1

theorem by_ok (m : List Cl) (mm : List (AV × AV)) (is : List In) (given : List PR) (hm : m.length < 1000) (hsup : ∀ c ∈ m, c.sup.length < 1000) (hi : is.length < 20000) (hy : ∀ y ∈ is, WIn y) (hg : given.length < 100000) (hgn : ∀ g ∈ given, nA g.ty ∧ g.ty.sz < 1000000) :
    ∀ (n : Nat) (x : PR), nA x.ty → x.ty.sz < 1000000 → x.ty.sz < n → ACall Tryz.prog n_entail_By [eEnv m mm is, .sl (ePrs given), ePr x] (evR (byE m is given n x)) := by
  intro n
  induction n with
  | zero => intro x _ _ h; omega
  | succ n ih =>
    intro x hx hxz hn
    have tail : byG m x 0 given = none → Wsem Tryz.prog (sndC (sndC (bodyC Tryz.f9))) (mkC { vs := [(0, .v (eEnv m mm is)), (1, .v (.sl (ePrs given))), (5, .box 0 (ePr x)), (6, .box 0 (eV zEv))] })
        (fun c => RetP tt Tryz.f9.results.toList (evR (byE m is given (n + 1) x)) (den c)) (fun _ _ => False) (fun c => RetP tt Tryz.f9.results.toList (evR (byE m is given (n + 1) x)) (den c)) := fun hG => by
      obtain ⟨n0, hI, hI2⟩ := instE_ok m mm is hi (fun y h => (hy y h).ok) x hxz
      refine Wsem.of ttok mixed ?_
      refine .inl ⟨_, hI, ?_⟩
      cases hE : instE is x with
      | none =>
        have e2 : evR (byE m is given (n + 1) x) = .tup [eV zEv, .lit (.int .i64 33)] := by
          rw [byE, hG]; simp only [hE, evR]
        refine ⟨fun hbs => ?_, fun hbs => ?_⟩ <;> first | (exfalso; revert hbs; (simp); done) | skip
        rw [e2]
        exact rfl
      | some q =>
        obtain ⟨k, l⟩ := q
        obtain ⟨hl, hk, hkids⟩ := inst_kids hy hx hE
        have hn0 := hI2 k l hE
        refine ⟨fun hbs => ?_, fun hbs => ?_⟩ <;> first | (exfalso; revert hbs; (simp); done) | skip
        simp only [Option.map_some, Option.getD_some]
        subst hn0
        refine ⟨{p : Nat × List Ev // p.1 ≤ l.length ∧ p.2.length = p.1 ∧ kidsO (byE m is given n) l = (kidsO (byE m is given n) (l.drop p.1)).map (p.2 ++ ·)}, fun p => { vs := [(0, .v (eEnv m mm is)), (1, .v (.sl (ePrs given))), (6, .box 0 (eV zEv)), (17, .box 0 (eV (.mk 3 (k : Nat) p.1.2))), (77, .v (.sl (ePrs l))), (78, sv (l.length : Nat)), (79, sv (p.1.1 : Nat))], ow := [(17, 2, 4)] },
          fun p => l.length - p.1.1, ⟨(0, []), Nat.zero_le _, rfl, by simp⟩, ⟨⟨rfl, rfl, rfl, rfl, rfl, svc (by simp [ePrs]), rfl, trivial⟩, ⟨trivial, trivial⟩, rfl⟩, ?_⟩
        rintro ⟨⟨j, ks⟩, hj, hkl, hinv⟩
        simp only at hj hkl hinv
        refine ⟨fun h => ?_, fun h => ?_⟩
        · have h : j < l.length := by have h : (j : Int) < (l.length : Nat) := of_decide_eq_true h; omega
          refine ⟨ePr l[j], by omega, getPr h, rfl, ?_⟩
          obtain ⟨q1, q2⟩ := hkids l[j] (List.getElem_mem h)
          refine .inl ⟨_, ih l[j] q1 (by omega) (by omega), ?_⟩
          rw [List.drop_eq_getElem_cons h, kidsO] at hinv
          cases hb : byE m is given n l[j] with
          | none =>
            rw [hb] at hinv
            have e2 : evR (byE m is given (n + 1) x) = .tup [eV zEv, .lit (.int .i64 33)] := by
              rw [byE, hG]; simp only [hE, hinv, Option.map_none, evR]
            refine ⟨fun hbs => ?_, fun hbs => ?_⟩ <;> first | (exfalso; revert hbs; (simp); done) | skip
            rw [e2]
            exact rfl
          | some v =>
            rw [hb] at hinv
            simp only at hinv
            refine ⟨fun hbs => ?_, fun hbs => ?_⟩ <;> first | (exfalso; revert hbs; (simp); done) | skip
            refine ⟨by have := eEvs_len ks; show (eEvs ks).length + 1 ≤ 4294967296; omega, uniEv ks, uni1 rfl, ?_⟩
            refine ⟨⟨(j + 1, ks ++ [v]), by show j + 1 ≤ _; omega, by simp [hkl], ?_⟩, by show l.length - (j + 1) < l.length - j; omega, ⟨rfl, rfl, rfl, ?_, rfl, rfl, svc (wrap_succ (k := j) (by omega)), trivial⟩, ⟨rfl, trivial⟩, rfl⟩
            · rw [hinv]
              cases kidsO (byE m is given n) (List.drop (j + 1) l) <;> simp
            · show SV.box 0 (.agg [_, _, .sl (eEvs ks ++ [eV v])]) = _
              rw [eEvs_snocV]; rfl
        · have h : j = l.length := by have h : ¬ (j : Int) < (l.length : Nat) := of_decide_eq_false h; omega
          subst h
          have e : kidsO (byE m is given n) l = some ks := by rw [hinv, List.drop_length]; simp [kidsO]
          have e2 : evR (byE m is given (n + 1) x) = .tup [eV (.mk 3 (k : Nat) ks), .lit (.int .i64 0)] := by
            rw [byE, hG]; simp only [hE, e, Option.map_some, evR]
          rw [e2]
          exact rfl
    have hsim : ∀ k (hk : k < given.length), pathB m given[k].cls x.cls |>.2.length ≤ 1001 := fun k hk => Nat.le_trans (pathB_len m _ _) (by omega)
    refine acall_of_wsem ttok mixed Tryz.func9 rfl (by rfl) (Nat.le_of_ble_eq_true rfl) (by kernel_rfl) ?_
    refine Wsem.seq ttok mixed ?_
    refine Wsem.seq ttok mixed ?_
    refine ⟨{k : Nat // k ≤ given.length ∧ byG m x 0 given = byG m x k (given.drop k)}, fun k => { vs := [(0, .v (eEnv m mm is)), (1, .v (.sl (ePrs given))), (5, .box 0 (ePr x)), (6, .box 0 (eV zEv)), (22, .v (.sl (ePrs given))), (23, sv (given.length : Nat)), (24, sv (k.1 : Nat))] },
      fun k => given.length - k.1, ⟨0, Nat.zero_le _, rfl⟩, ⟨⟨rfl, rfl, rfl, rfl, rfl, svc (by simp [ePrs]), rfl, trivial⟩, trivial, rfl⟩, ?_⟩
    rintro ⟨k, hk, hinv⟩
    refine ⟨fun h => ?_, fun h => ?_⟩
    · have h : k < given.length := by have h : (k : Int) < (given.length : Nat) := of_decide_eq_true h; omega
      rw [List.drop_eq_getElem_cons h, byG] at hinv
      refine ⟨ePr given[k], by omega, getPr h, rfl, ?_⟩
      have hPath := path_ok m mm is hm hsup given[k].cls x.cls
      have hlen := hsim k h
      revert hPath hlen hinv
      generalize pathB m given[k].cls x.cls = pb
      obtain ⟨b, way⟩ := pb
      intro hinv hPath hlen
      simp only at hinv hlen
      refine .inl ⟨_, hPath, ?_⟩
      have hr : given.length - (k + 1) < given.length - k := by omega
      cases b with
      | false =>
        refine ⟨fun hbs => ?_, fun hbs => ?_⟩ <;> first | (exfalso; revert hbs; (simp); done) | skip
        refine ⟨⟨k + 1, h, by rw [hinv]; simp⟩, hr, ⟨rfl, rfl, rfl, rfl, rfl, rfl, svc (wrap_succ (k := k) (by omega)), trivial⟩, trivial, rfl⟩
      | true =>
        refine ⟨fun hbs => ?_, fun hbs => ?_⟩ <;> first | (exfalso; revert hbs; (simp); done) | skip
        have hS := sameT_ok given[k].ty x.ty (by have := (hgn given[k] (List.getElem_mem h)).2; omega)
        rw [smb_nA _ _ (hgn given[k] (List.getElem_mem h)).1 hx] at hS
        refine .inl ⟨_, hS, ?_⟩
        by_cases ht : given[k].ty = x.ty
        · have hinv2 : byG m x 0 given = some (wrapV (.mk 1 (k : Nat) []) way) := by rw [hinv]; simp [ht]
          have e2 : evR (byE m is given (n + 1) x) = .tup [eV (wrapV (.mk 1 (k : Nat) []) way), .lit (.int .i64 0)] := by
            rw [byE, hinv2]; rfl
          rw [e2]
          refine ⟨fun hbs => ?_, fun hbs => ?_⟩ <;> first | (exfalso; revert hbs; (simp [ht]); done) | skip
          refine ⟨{j : Nat // j ≤ way.length}, fun j => { vs := [(6, .box 0 (eV zEv)), (10, .v (.sl (eIs way))), (12, .box 0 (eV (wrapV (.mk 1 (k : Nat) []) (way.take j.1)))), (50, .v (.sl (eIs way))), (51, sv (way.length : Nat)), (52, sv (j.1 : Nat))] },
            fun j => way.length - j.1, ⟨0, Nat.zero_le _⟩, ⟨⟨rfl, rfl, rfl, rfl, svc (by simp [eIs]), rfl, trivial⟩, trivial, rfl⟩, ?_⟩
          rintro ⟨j, hj⟩
          refine ⟨fun h2 => ?_, fun h2 => ?_⟩
          · have h2 : j < way.length := by have h : (j : Int) < (way.length : Nat) := of_decide_eq_true h2; omega
            refine ⟨_, by omega, getIs h2, rfl, ?_⟩
            refine ⟨by kernel_rfl, ?_⟩
            refine ⟨⟨j + 1, h2⟩, (show way.length - (j + 1) < way.length - j by omega), ⟨rfl, rfl, ?_, rfl, rfl, svc (wrap_succ (k := j) (by omega)), trivial⟩, trivial, rfl⟩
            show SV.box 0 (.agg [_, .lit (.int .i64 way[j]), .sl [eV (wrapV _ (way.take j))]]) = _
            simp only [wrapV_snoc _ _ h2]
            rw [eV_eq (wrapV _ (way.take j))]
            rfl
          · have h2 : j = way.length := by have h : ¬ (j : Int) < (way.length : Nat) := of_decide_eq_false h2; omega
            subst h2
            rw [List.take_length]
            exact rfl
        · refine ⟨fun hbs => ?_, fun hbs => ?_⟩ <;> first | (exfalso; revert hbs; (simp [ht]); done) | skip
          refine ⟨⟨k + 1, h, by rw [hinv]; simp [ht]⟩, hr, ⟨rfl, rfl, rfl, rfl, rfl, rfl, svc (wrap_succ (k := k) (by omega)), trivial⟩, trivial, rfl⟩
    · have h : k = given.length := by have h : ¬ (k : Int) < (given.length : Nat) := of_decide_eq_false h; omega
      subst h
      refine Wsem.cut _ ?_ (tail (by rw [hinv, List.drop_length, byG]))
      exact ⟨⟨rfl, rfl, rfl, rfl, trivial⟩, trivial, rfl⟩
end Go.Proofs.YtkhnjmbgkakngaaGreatDoor
