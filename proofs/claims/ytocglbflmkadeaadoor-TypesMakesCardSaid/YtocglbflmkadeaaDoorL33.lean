/- A part of the proof of a given statement: contracts of functions of the program, under no condition but those that each states. -/
import Derived.Test.YtocglbflmkadeaaDoorL32
set_option linter.unusedSimpArgs false
set_option linter.unusedVariables false
namespace Go.Proofs.YtocglbflmkadeaaDoor
open Go Fp
set_option maxRecDepth 100000
set_option maxHeartbeats 8000000

theorem reverse_nil : ACall Tryd.prog n_slices_Reverse_apiTypeapiType [.lit (.slice none 0 0)] (.tup []) := by
  refine acall_of_wc ttok mixed Tryd.func48 rfl (by rfl) (Nat.le_of_ble_eq_true rfl) (by kernel_rfl) ?_
  refine ⟨Unit, fun _ => { vs := [(2, .v (.lit (.int .i64 0))), (3, .v (.lit (.int .i64 (-1))))], ow := [] }, fun _ => 0, (), ⟨⟨rfl, rfl, trivial⟩, trivial, rfl⟩, ?_⟩
  rintro ⟨⟩
  refine ⟨fun h => (by cases h), fun _ => ?_⟩
  exact rfl

/-- What a type is made of: what is given, and what it is given, the last first. -/
def spHd : Tp → Tp
  | .app x _ => spHd x
  | t => t
def spAr : Tp → List Tp
  | .app x b => b :: spAr x
  | _ => []
theorem spAr_len (t : Tp) : (spAr t).length ≤ t.sz := by
  induction t with
  | app x b ihx _ => simp only [spAr, List.length_cons, Tp.sz]; omega
  | _ => simp [spAr]

structure SpSt (t : Tp) where
  cur : Tp
  col : List Tp
  blk : Option (Nat × Nat × List AV)
  hd : spHd cur = spHd t
  ar : col ++ spAr cur = spAr t
  ok : match blk with
    | none => col = []
    | some (_, cap, rest) => col ≠ [] ∧ col.length ≤ cap ∧ rest.length = (cap - col.length) * 4

theorem fl_app (l : List Tp) (x : Tp) (rest rest' : List AV) : (fl l rest).take (l.length * 4) ++ ([eTy x].flatMap AV.cells ++ rest') = fl (l ++ [x]) rest' := by
  have h : ((eTys l).flatMap AV.cells).length = l.length * 4 := by
    have := fl_len l []
    simpa [fl] using this
  unfold fl
  rw [List.take_append_of_le_length (by rw [h]; omega), ← h, List.take_length, ← List.append_assoc]
  congr 1
  simp [eTys]

theorem spine_ok (t : Tp) (hs : t.sz < 1000000) : ACall Tryd.prog n_types_Spine [eTy t] (.tup [eTy (spHd t), .sl (eTys (spAr t).reverse)]) := by
  refine freeze2 (esz := 4) (uniT _) (fun x hx c hc => ?_) ?_
  · obtain ⟨y, _, rfl⟩ := List.mem_map.1 hx
    simp [eTy, AV.cells] at hc
    rcases hc with rfl | rfl | rfl | rfl <;> rfl
  refine callsG_of_wc ttok mixed Tryd.func20 rfl (by rfl) (by rfl) (Nat.le_of_ble_eq_true rfl) (Nat.le_of_ble_eq_true rfl) (by kernel_rfl) ?_
  have hal := spAr_len t
  refine ⟨SpSt t, fun s => { vs := [(1, .box 0 (eTy s.cur)), (2, .box 0 (eTy .no)), (4, .v (.lit (match s.blk with
      | none => .slice none 0 0
      | some (b, cap, _) => .slice (some ⟨b, 0, none⟩) s.col.length cap)))], ow := [], hp := (match s.blk with
      | none => []
      | some (b, _, rest) => [(b, .cells (fl s.col rest))]) }, fun s => s.cur.sz, ⟨t, [], none, rfl, rfl, rfl⟩, ⟨⟨rfl, rfl, .inl rfl, trivial⟩, trivial, rfl⟩, ?_⟩
  rintro ⟨cur, col, blk, hd, ar, ok⟩
  have hlen : col.length + (spAr cur).length = (spAr t).length := by rw [← ar, List.length_append]
  have hcl : (eTys col).length = col.length := by simp [eTys]
  cases blk with
  | none =>
    have ok : col = [] := ok
    subst ok
    refine ⟨fun h => ?_, fun h => ?_⟩
    · obtain ⟨x, b, rfl⟩ := Tp.is_app (t := cur) (by simpa using h)
      refine ⟨_, by decide, rfl, rfl, ?_⟩
      refine .inl ⟨_, own_ok b, ?_⟩
      refine ⟨rfl, by simp, by simp, uniT [b], rfl, rfl, fun b' cap' zs h1 h2 => ?_⟩
      refine ⟨_, by decide, rfl, rfl, ?_⟩
      refine ⟨⟨x, [b], some (b', cap', zs), hd, ar, by simp, h1, h2⟩, by simp only [Tp.sz]; have := sz_pos b; omega, ⟨rfl, rfl, rfl, trivial⟩, trivial, ?_⟩
      show [(b', HO.cells ([eTy b].flatMap AV.cells ++ zs))] = [(b', HO.cells (fl [b] zs))]
      rfl
    · have hna : ¬ cur.form = 4 := by simpa using h
      have e1 : spHd cur = cur := by cases cur <;> first | rfl | exact absurd rfl hna
      have e2 : spAr cur = [] := by cases cur <;> first | rfl | exact absurd rfl hna
      rw [e1] at hd
      rw [e2, List.append_nil] at ar
      refine .inl ⟨_, reverse_nil, ?_⟩
      refine .inl ⟨_, own_ok cur, ?_⟩
      refine ⟨rfl, .inl ⟨?_, ?_, rfl⟩⟩
      · rw [← ar]; rfl
      · rw [← hd]; rfl
  | some q =>
    obtain ⟨b0, cap, rest⟩ := q
    obtain ⟨ok0, ok1, ok2⟩ := ok
    refine ⟨fun h => ?_, fun h => ?_⟩
    · obtain ⟨x, b, rfl⟩ := Tp.is_app (t := cur) (by simpa using h)
      refine ⟨_, by decide, rfl, rfl, ?_⟩
      refine .inl ⟨_, own_ok b, ?_⟩
      refine ⟨rfl, by simp, by simp; omega, uniT [b], 0, _, rfl, ok1, ?_, fun b' cap' zs h1 h2 => ?_⟩
      · show (fl col rest).length = cap * 4
        rw [fl_len, ok2, ← Nat.add_mul]; congr 1; omega
      refine ⟨_, by decide, rfl, rfl, ?_⟩
      refine ⟨⟨x, col ++ [b], some (b', cap', zs), hd, by rw [List.append_assoc]; exact ar, by simp, by simpa using h1, by simpa using h2⟩, by simp only [Tp.sz]; have := sz_pos b; omega, ⟨rfl, rfl, ?_, trivial⟩, trivial, ?_⟩
      · show SV.v (AV.lit (.slice (some ⟨b', 0, none⟩) (col.length + 1) cap')) = SV.v (AV.lit (.slice (some ⟨b', 0, none⟩) (col ++ [b]).length cap'))
        rw [List.length_append]; rfl
      · show [(b', HO.cells ((fl col rest).take (col.length * 4) ++ ([eTy b].flatMap AV.cells ++ zs)))] = [(b', HO.cells (fl (col ++ [b]) zs))]
        rw [fl_app]
    · have hna : ¬ cur.form = 4 := by simpa using h
      have e1 : spHd cur = cur := by cases cur <;> first | rfl | exact absurd rfl hna
      have e2 : spAr cur = [] := by cases cur <;> first | rfl | exact absurd rfl hna
      rw [e1] at hd
      rw [e2, List.append_nil] at ar
      refine .inr ⟨rfl, [0], _, [], _, rfl, by simp, rfl, reverse_ok b0 cap col rest (by omega), ?_⟩
      rintro _ _ _ rfl
      refine .inl ⟨_, own_ok cur, ?_⟩
      refine ⟨rfl, .inr ⟨b0, cap, rest, ?_, ?_, ?_⟩⟩
      · simp [eTys, ← ar]; exact ok1
      · have hl : (eTys col.reverse).length = col.length := by simp [eTys]
        rw [← hd, ← ar, hl]; rfl
      · rw [← ar]; rfl
end Go.Proofs.YtocglbflmkadeaaDoor
