/- A part of the proof of a given statement: contracts of functions of the program, under no condition but those that each states. -/
import Derived.Test.YtocglbflmkadeaaDoorL5
set_option linter.unusedSimpArgs false
set_option linter.unusedVariables false
namespace Go.Proofs.YtocglbflmkadeaaDoor
open Go Fp
set_option maxRecDepth 10000
set_option maxHeartbeats 4000000

theorem split_ok (t : Tp) : ACall Tryd.prog n_types_Split [eTy t] (.tup [eTy (partsOf t).1, eTy (partsOf t).2.1, .sb (partsOf t).2.2]) := by
  refine acall_of_wc ttok mixed Tryd.func12 rfl (by rfl) (Nat.le_of_ble_eq_true rfl) (by kernel_rfl) ?_
  refine .inl ⟨_, parts_ok t, ?_⟩
  refine .inl ⟨_, own_ok _, ?_⟩
  refine .inl ⟨_, own_ok _, ?_⟩
  exact rfl

theorem con_mk (s : ByteArray) : ACall Tryd.prog n_types_Con [.lit (.string s)] (eTy (.con s)) := by
  refine acall_of_wc ttok mixed Tryd.func45 rfl (by rfl) (Nat.le_of_ble_eq_true rfl) (by kernel_rfl) ?_
  exact rfl
theorem var_mk (s : ByteArray) : ACall Tryd.prog n_types_Var [.lit (.string s)] (eTy (.var s)) := by
  refine acall_of_wc ttok mixed Tryd.func23 rfl (by rfl) (Nat.le_of_ble_eq_true rfl) (by kernel_rfl) ?_
  exact rfl
theorem apply_mk (a b : Tp) : ACall Tryd.prog n_types_apply [eTy a, eTy b] (eTy (.app a b)) := by
  refine acall_of_wc ttok mixed Tryd.func47 rfl (by rfl) (Nat.le_of_ble_eq_true rfl) (by kernel_rfl) ?_
  exact rfl
theorem boolean_ok (b : Bool) : ACall Tryd.prog n_types_boolean [.sb b] (.lit (.int .i64 (if b then 1 else 0))) := by
  refine acall_of_wc ttok mixed Tryd.func63 rfl (by rfl) (Nat.le_of_ble_eq_true rfl) (by kernel_rfl) ?_
  refine ⟨fun h => ?_, fun h => ?_⟩ <;> subst h <;> exact rfl

theorem lenT (t : Tp) : t.eArgs.length = t.args.length := by rw [t.eArgs_eq]; simp [eTys]

theorem equal_step (a b : Tp) (ih : ∀ x ∈ a.args, ∀ y, ACall Tryd.prog n_fugueref04_Equal [eTy x, eTy y] (.sb (decide (x = y)))) : ACall Tryd.prog n_fugueref04_Equal [eTy a, eTy b] (.sb (decide (a = b))) := by
  have h2 := args_le a
  refine acall_of_wc ttok mixed Tryd.func14 rfl (by rfl) (Nat.le_of_ble_eq_true rfl) (by kernel_rfl) ?_
  have no : ∀ {p : Prop} [Decidable p], ¬ p → (AV.sb false = AV.sb (decide p)) := fun h => by rw [decide_eq_false h]
  refine ⟨fun h1 => ?_, fun h1 => no (fun e => by subst e; simp at h1)⟩
  have h1 : a.form = b.form := by simpa using h1
  refine ⟨fun h3 => ?_, fun h3 => no (fun e => by subst e; simp at h3)⟩
  have h3 : a.num = b.num := by simpa using h3
  refine ⟨fun h4 => ?_, fun h4 => no (fun e => by subst e; simp at h4)⟩
  have h4 : a.nam = b.nam := by simpa using h4
  refine ⟨fun h5 => no (fun e => by subst e; simp at h5), fun h5 => ?_⟩
  have h5 : a.args.length = b.args.length := by simp [lenT] at h5; omega
  refine ⟨{k : Nat // k ≤ a.args.length ∧ a.args.take k = b.args.take k}, fun k => { vs := [(2, .box 0 (eTy a)), (3, .box 0 (eTy b)), (5, .v (.lit (.int .i64 (k.1 : Nat))))] },
    fun k => a.args.length - k.1, ⟨0, Nat.zero_le _, rfl⟩, ⟨⟨rfl, rfl, rfl, trivial⟩, trivial, rfl⟩, ?_⟩
  rintro ⟨k, hk, hk2⟩
  refine ⟨fun h => ?_, fun h => ?_⟩
  · have h : k < a.args.length := by simp [lenT] at h; omega
    refine ⟨eTy a.args[k], by simp, by rw [a.eArgs_eq]; exact getT h, rfl, ?_⟩
    have h' : k < b.args.length := by omega
    refine ⟨eTy b.args[k], by simp, by rw [b.eArgs_eq]; exact getT h', rfl, ?_⟩
    refine .inl ⟨_, ih _ (List.getElem_mem h) _, ?_⟩
    refine ⟨fun h6 => no (fun e => by subst e; simp at h6), fun h6 => ?_⟩
    have h6 : a.args[k] = b.args[k] := by simpa using h6
    refine ⟨⟨k + 1, h, by rw [List.take_succ_eq_append_getElem h, List.take_succ_eq_append_getElem (by omega), hk2, h6]⟩, (show a.args.length - (k + 1) < a.args.length - k by omega), ⟨rfl, rfl, ?_, trivial⟩, trivial, rfl⟩
    exact congrArg (fun l => SV.v (AV.lit (Value.int .i64 l))) (wrap_succ (k := k) (by omega))
  · have h : k = a.args.length := by simp [lenT] at h; omega
    subst h
    have e : a = b := Tp.ext4 h1 h3 h4 (by rw [List.take_length, h5, List.take_length] at hk2; exact hk2)
    rw [decide_eq_true e]
    exact rfl

theorem equal_ok (a b : Tp) : ACall Tryd.prog n_fugueref04_Equal [eTy a, eTy b] (.sb (decide (a = b))) := by
  induction a generalizing b with
  | app x y ihx ihy => exact equal_step _ _ (by simp [Tp.args]; exact ⟨ihx, ihy⟩)
  | all s x ih => exact equal_step _ _ (by simp [Tp.args]; exact ih)
  | _ => exact equal_step _ _ (by simp [Tp.args])

/-- Given others, one behind the other. -/
def appAllT (f : Tp) (l : List Tp) : Tp := l.foldl .app f
/-- A function's type, of as many arguments as there are. -/
def funT (to : Tp) (l : List Tp) : Tp := l.foldr (fun a o => .app (.app (.con arrow) a) o) to

theorem appT_ok (f : Tp) (l : List Tp) (hl : l.length < 4294967296) : ACall Tryd.prog n_types_App [eTy f, .sl (eTys l)] (eTy (appAllT f l)) := by
  refine acall_of_wc ttok mixed Tryd.func19 rfl (by rfl) (Nat.le_of_ble_eq_true rfl) (by kernel_rfl) ?_
  refine .inl ⟨_, own_ok f, ?_⟩
  have hlen : (eTys l).length = l.length := by simp [eTys]
  refine ⟨{k : Nat // k ≤ l.length}, fun k => { vs := [(4, .box 0 (eTy .no)), (5, .box 0 (eTy (appAllT f (l.take k.1)))), (10, .v (.sl (eTys l))), (11, .v (.lit (.int .i64 ((eTys l).length : Nat)))), (12, .v (.lit (.int .i64 (k.1 : Nat))))] },
    fun k => l.length - k.1, ⟨0, Nat.zero_le _⟩, ⟨⟨rfl, rfl, rfl, rfl, rfl, trivial⟩, trivial, rfl⟩, ?_⟩
  rintro ⟨k, hk⟩
  refine ⟨fun h => ?_, fun h => ?_⟩
  · have h : k < l.length := by simp [hlen] at h; omega
    refine ⟨eTy l[k], by simp, getT h, rfl, ?_⟩
    refine .inl ⟨_, own_ok _, ?_⟩
    refine .inl ⟨_, apply_mk _ _, ?_⟩
    refine ⟨⟨k + 1, h⟩, (show l.length - (k + 1) < l.length - k by omega), ⟨rfl, ?_, rfl, rfl, ?_, trivial⟩, trivial, rfl⟩
    · show SV.box 0 (eTy (.app (appAllT f (l.take k)) l[k])) = SV.box 0 (eTy (appAllT f (l.take (k + 1))))
      rw [List.take_succ_eq_append_getElem h]; unfold appAllT; rw [List.foldl_append]; rfl
    · exact congrArg (fun l => SV.v (AV.lit (Value.int .i64 l))) (wrap_succ (k := k) (by omega))
  · have h : k = l.length := by simp [hlen] at h; omega
    subst h
    show eTy (appAllT f (l.take l.length)) = _
    rw [List.take_length]

theorem funT_ok (to : Tp) (l : List Tp) (hl : l.length < 4294967296) : ACall Tryd.prog n_types_Fun [eTy to, .sl (eTys l)] (eTy (funT to l)) := by
  refine acall_of_wc ttok mixed Tryd.func18 rfl (by rfl) (Nat.le_of_ble_eq_true rfl) (by kernel_rfl) ?_
  refine .inl ⟨_, own_ok to, ?_⟩
  have hlen : (eTys l).length = l.length := by simp [eTys]
  refine ⟨{k : Nat // k ≤ l.length}, fun k => { vs := [(1, .v (.sl (eTys l))), (4, .box 0 (eTy .no)), (5, .box 0 (eTy (funT to (l.drop (l.length - k.1))))), (10, .v (.lit (.int .i64 ((eTys l).length : Nat)))), (11, .v (.lit (.int .i64 (k.1 : Nat))))] },
    fun k => l.length - k.1, ⟨0, Nat.zero_le _⟩, ⟨⟨rfl, rfl, ?_, rfl, rfl, trivial⟩, trivial, rfl⟩, ?_⟩
  · show SV.box 0 (eTy to) = SV.box 0 (eTy (funT to (l.drop (l.length - 0))))
    rw [Nat.sub_zero, List.drop_length]; rfl
  rintro ⟨k, hk⟩
  refine ⟨fun h => ?_, fun h => ?_⟩
  · have h : k < l.length := by simp [hlen] at h; omega
    have e1 : IntKind.i64.wrap (((eTys l).length : Nat) - 1 : Int) = ((l.length - 1 : Nat) : Int) := by rw [hlen, show ((l.length : Nat) - 1 : Int) = ((l.length - 1 : Nat) : Int) by omega]; exact wrap_nat (by omega)
    have e2 : IntKind.i64.wrap (((l.length - 1 : Nat) : Int) - ((k : Nat) : Int)) = ((l.length - 1 - k : Nat) : Int) := by rw [show (((l.length - 1 : Nat) : Int) - ((k : Nat) : Int)) = ((l.length - 1 - k : Nat) : Int) by omega]; exact wrap_nat (by omega)
    have hlt : l.length - 1 - k < l.length := by omega
    refine .inl ⟨_, con_mk _, ?_⟩
    refine ⟨eTy l[l.length - 1 - k], ?_, ?_, rfl, ?_⟩
    · show (0 : Int) ≤ IntKind.i64.wrap (IntKind.i64.wrap (((eTys l).length : Nat) - 1 : Int) - ((k : Nat) : Int)); rw [e1, e2]; omega
    · show (eTys l)[Int.toNat (IntKind.i64.wrap (IntKind.i64.wrap (((eTys l).length : Nat) - 1 : Int) - ((k : Nat) : Int)))]? = _; rw [e1, e2]; exact getT hlt
    refine .inl ⟨_, own_ok _, ?_⟩
    refine .inl ⟨_, apply_mk (.con arrow) _, ?_⟩
    refine .inl ⟨_, apply_mk (.app (.con arrow) _) _, ?_⟩
    refine ⟨⟨k + 1, h⟩, (show l.length - (k + 1) < l.length - k by omega), ⟨rfl, rfl, ?_, rfl, ?_, trivial⟩, trivial, rfl⟩
    · show SV.box 0 (eTy (.app (.app (.con arrow) l[l.length - 1 - k]) (funT to (l.drop (l.length - k))))) = SV.box 0 (eTy (funT to (l.drop (l.length - (k + 1)))))
      rw [show l.length - (k + 1) = l.length - 1 - k by omega, List.drop_eq_getElem_cons hlt, show l.length - 1 - k + 1 = l.length - k by omega]; rfl
    · exact congrArg (fun l => SV.v (AV.lit (Value.int .i64 l))) (wrap_succ (k := k) (by omega))
  · have h : k = l.length := by simp [hlen] at h; omega
    subst h
    show eTy (funT to (l.drop (l.length - l.length))) = _
    rw [Nat.sub_self, List.drop_zero]
end Go.Proofs.YtocglbflmkadeaaDoor
