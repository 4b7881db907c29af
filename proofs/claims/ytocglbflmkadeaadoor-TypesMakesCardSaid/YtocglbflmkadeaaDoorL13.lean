/- A part of the proof of a given statement: contracts of functions of the program, under no condition but those that each states. -/
import Derived.Test.YtocglbflmkadeaaDoorL12
set_option linter.unusedSimpArgs false
set_option linter.unusedVariables false
namespace Go.Proofs.YtocglbflmkadeaaDoor
open Go Fp
set_option maxRecDepth 100000
set_option maxHeartbeats 4000000

theorem fr_length (t : Tp) : ∀ g out, (fr t g out).length ≤ out.length + t.sz := by
  intro g out
  rw [fr_eq]
  have := insAll_length (fun s => memb s g) (fv t) out
  have := fv_length t
  omega

/-- A type's arguments, one behind the other. -/
def frs (l : List Tp) (g out : List ByteArray) : List ByteArray := l.foldl (fun out a => fr a g out) out
theorem frs_take {l : List Tp} {g out : List ByteArray} {k : Nat} (h : k < l.length) : frs (l.take (k + 1)) g out = fr l[k] g (frs (l.take k) g out) := by
  simp only [frs, List.take_succ_eq_append_getElem h, List.foldl_append, List.foldl_cons, List.foldl_nil]
theorem frs_length {l : List Tp} {g out : List ByteArray} {N : Nat} (hN : ∀ a ∈ l, a.sz ≤ N) (k : Nat) (h : k ≤ l.length) : (frs (l.take k) g out).length ≤ out.length + k * N := by
  induction k with
  | zero => simp [frs]
  | succ k ih =>
    rw [frs_take h]
    have := fr_length l[k] g (frs (l.take k) g out)
    have := ih (by omega)
    have := hN _ (List.getElem_mem h)
    rw [Nat.succ_mul]; omega

theorem frs_room (t : Tp) (g out : List ByteArray) {k : Nat} (h : k < t.args.length) : (frs (t.args.take k) g out).length + t.args[k].sz ≤ out.length + t.sz ∧ 1 + t.args[k].sz ≤ t.sz := by
  cases t with
  | app a b =>
    match k, h with
    | 0, _ => simp [frs, Tp.args, Tp.sz]; omega
    | 1, _ => have := fr_length a g out; simp [frs, Tp.args, Tp.sz]; omega
    | k + 2, h => simp [Tp.args] at h; omega
  | all s a =>
    match k, h with
    | 0, _ => simp [frs, Tp.args, Tp.sz]
    | k + 1, h => simp [Tp.args] at h
  | _ => simp [Tp.args] at h

abbrev freeSays (t : Tp) (g out : List ByteArray) : Prop :=
  CallsG Tryd.prog (fnv n_fugueref04_free) [] [eTy t, .sl (eSs g), .sl (eSs out)] [0, 0, 2] fun r o h => r = .sl (eSs (fr t g out)) ∧ o = 2 ∧ h = []

theorem rfree_step (N : Nat) (hN : N < 1000000) (t : Tp) (hs : t.sz ≤ N + 1) (g out : List ByteArray) (hg : g.length + t.sz ≤ 2000000) (ho : out.length + t.sz ≤ 1000000000)
    (ih : ∀ a ∈ t.args, ∀ g out : List ByteArray, g.length + a.sz ≤ 2000000 → out.length + a.sz ≤ 1000000000 → freeSays a g out) : freeSays t g out := by
  refine callsG_of_wc ttok mixed Tryd.func57 rfl (by rfl) (by rfl) (Nat.le_of_ble_eq_true rfl) (Nat.le_of_ble_eq_true rfl) (by kernel_rfl) ?_
  have hgl : (eSs g).length = g.length := by simp [eSs]
  have hol : (eSs out).length = out.length := by simp [eSs]
  have hlen : t.eArgs.length = t.args.length := lenT t
  have h2 := args_le t
  refine ⟨fun h => ?_, fun h => ?_⟩
  · obtain ⟨s, rfl⟩ := Tp.is_var (t := t) (by simpa using h)
    refine .inl ⟨_, has_ok (l := g) (s := s) (by omega), ?_⟩
    refine ⟨fun h1 => ?_, fun h1 => ?_⟩
    · refine .inl ⟨_, has_ok (l := out) (s := s) (by omega), ?_⟩
      refine ⟨fun h3 => ?_, fun h3 => ?_⟩
      · have e : fr (.var s) g out = out := by simp [fr, h3]
        rw [e]
        exact ⟨rfl, rfl, rfl⟩
      · have e : fr (.var s) g out = out ++ [s] := by simp [fr, h1, h3]
        rw [e]
        refine ⟨by simp [eSs]; omega, uniS _, uniS [_], ?_⟩
        exact ⟨congrArg AV.sl (snocS out s), rfl, rfl⟩
    · have e : fr (.var s) g out = out := by simp [fr, h1]
      rw [e]
      exact ⟨rfl, rfl, rfl⟩
  · have hf : ¬ t.form = 2 := by simpa using h
    refine ⟨fun h5 => ?_, fun h5 => ?_⟩
    · obtain ⟨s, a, rfl⟩ := Tp.is_all (t := t) (by simpa using h5)
      refine ⟨by simp [eSs]; omega, uni0 _, uniS _, ?_⟩
      refine ⟨by simp [eSs]; omega, by simpa using uniS g, uniS [_], ?_⟩
      refine ⟨{k : Nat // k ≤ (Tp.all s a).args.length}, fun k => { vs := [(1, .v (.sl (eSs (g ++ [s])))), (2, .v (.sl (eSs (frs ((Tp.all s a).args.take k.1) (g ++ [s]) out)))), (3, .box 0 (eTy (Tp.all s a))), (8, .v (.lit (.int .i64 (k.1 : Nat))))], ow := [(2, 0, 2)] },
        fun k => (Tp.all s a).args.length - k.1, ⟨0, Nat.zero_le _⟩, ⟨⟨(congrArg (fun l => SV.v (AV.sl l)) (snocS g s)), rfl, rfl, rfl, trivial⟩, ⟨rfl, trivial⟩, rfl⟩, ?_⟩
      rintro ⟨k, hk⟩
      have hrm := fun h => frs_room (Tp.all s a) (g ++ [s]) out (k := k) h
      refine ⟨fun h => ?_, fun h => ?_⟩
      · have h : k < (Tp.all s a).args.length := by simp [hlen] at h; omega
        have hrm := hrm h
        refine ⟨eTy (Tp.all s a).args[k], by simp, by rw [Tp.eArgs_eq]; exact getT h, rfl, ?_⟩
        refine .inr ⟨rfl, [], [], [0, 0, 2], _, rfl, List.nodup_nil, rfl, ih _ (List.getElem_mem h) (g ++ [s]) (frs ((Tp.all s a).args.take k) (g ++ [s]) out) (by simp; omega) (by omega), ?_⟩
        rintro _ _ _ ⟨rfl, rfl, rfl⟩
        refine ⟨⟨k + 1, h⟩, (show (Tp.all s a).args.length - (k + 1) < (Tp.all s a).args.length - k by omega), ⟨rfl, ?_, rfl, ?_, trivial⟩, ⟨rfl, trivial⟩, rfl⟩
        · exact congrArg (fun l => SV.v (AV.sl (eSs l))) (frs_take h).symm
        · exact congrArg (fun n => SV.v (AV.lit (Value.int .i64 n))) (wrap_succ (k := k) (by omega))
      · have h : k = (Tp.all s a).args.length := by simp [hlen] at h; omega
        subst h
        have e : fr (Tp.all s a) g out = frs ((Tp.all s a).args.take (Tp.all s a).args.length) (g ++ [s]) out := by
          rw [List.take_length]
          rfl
        rw [e]
        exact ⟨rfl, rfl, rfl⟩
    · have h5 : ¬ t.form = 5 := by simpa using h5
      refine ⟨{k : Nat // k ≤ t.args.length}, fun k => { vs := [(1, .v (.sl (eSs g))), (2, .v (.sl (eSs (frs (t.args.take k.1) (g) out)))), (3, .box 0 (eTy t)), (8, .v (.lit (.int .i64 (k.1 : Nat))))], ow := [(2, 0, 2)] },
        fun k => t.args.length - k.1, ⟨0, Nat.zero_le _⟩, ⟨⟨rfl, rfl, rfl, rfl, trivial⟩, ⟨rfl, trivial⟩, rfl⟩, ?_⟩
      rintro ⟨k, hk⟩
      have hrm := fun h => frs_room t g out (k := k) h
      refine ⟨fun h => ?_, fun h => ?_⟩
      · have h : k < t.args.length := by simp [hlen] at h; omega
        have hrm := hrm h
        refine ⟨eTy t.args[k], by simp, by rw [t.eArgs_eq]; exact getT h, rfl, ?_⟩
        refine .inr ⟨rfl, [], [], [0, 0, 2], _, rfl, List.nodup_nil, rfl, ih _ (List.getElem_mem h) (g) (frs (t.args.take k) (g) out) (by omega) (by omega), ?_⟩
        rintro _ _ _ ⟨rfl, rfl, rfl⟩
        refine ⟨⟨k + 1, h⟩, (show t.args.length - (k + 1) < t.args.length - k by omega), ⟨rfl, ?_, rfl, ?_, trivial⟩, ⟨rfl, trivial⟩, rfl⟩
        · exact congrArg (fun l => SV.v (AV.sl (eSs l))) (frs_take h).symm
        · exact congrArg (fun n => SV.v (AV.lit (Value.int .i64 n))) (wrap_succ (k := k) (by omega))
      · have h : k = t.args.length := by simp [hlen] at h; omega
        subst h
        have e : fr t g out = frs (t.args.take t.args.length) (g) out := by
          rw [List.take_length]
          cases t <;> first | rfl | exact absurd rfl hf | exact absurd rfl h5
        rw [e]
        exact ⟨rfl, rfl, rfl⟩

theorem rfree_ok (N : Nat) (hN : N < 1000000) : ∀ (t : Tp) (g out : List ByteArray), t.sz ≤ N → g.length + t.sz ≤ 2000000 → out.length + t.sz ≤ 1000000000 → freeSays t g out := by
  induction N with
  | zero => intro t _ _ h; have := sz_pos t; omega
  | succ N ih => exact fun t g out h hg ho => rfree_step N (by omega) t h g out hg ho fun a ha g out hg ho => ih (by omega) a g out (setSz h a ha) hg ho

theorem rFree_ok (t : Tp) (h : t.sz < 1000000) : ACall Tryd.prog n_fugueref04_Free [eTy t] (.sl (eSs (fv t))) := by
  refine acall_of_wc ttok mixed Tryd.func31 rfl (by rfl) (Nat.le_of_ble_eq_true rfl) (by kernel_rfl) ?_
  refine .inr ⟨rfl, [], [], [0, 0, 2], _, rfl, List.nodup_nil, rfl, rfree_ok t.sz h t [] [] (Nat.le_refl _) (by simp; omega) (by simp; omega), ?_⟩
  rintro _ _ _ ⟨rfl, rfl, rfl⟩
  rw [fr_fv]
  exact rfl
end Go.Proofs.YtocglbflmkadeaaDoor
