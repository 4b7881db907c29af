/- Values made; values that a pattern takes, made. No condition. -/
import Derived.Test.YtefdahofpjmnfaaM1
set_option linter.unusedSimpArgs false
set_option linter.unusedVariables false
namespace Go.Proofs.Ytefdahofpjmnfaa
open Go Fp
set_option maxRecDepth 10000
set_option maxHeartbeats 16000000

/-- Values made one behind the other. -/
def vtp (P : Nat → Nat → Vl) (N : Nat → Nat → Nat) : List Nat → Nat → List Vl × Nat
  | [], a => ([], a)
  | u :: fs, a => (P a u :: (vtp P N fs (N a u)).1, (vtp P N fs (N a u)).2)
theorem vtp_snoc {P : Nat → Nat → Vl} {N : Nat → Nat → Nat} (u : Nat) : ∀ (fs : List Nat) (a : Nat), vtp P N (fs ++ [u]) a = ((vtp P N fs a).1 ++ [P (vtp P N fs a).2 u], N (vtp P N fs a).2 u)
  | [], a => rfl
  | v :: fs, a => by simp only [List.cons_append, vtp, vtp_snoc u fs]
theorem vtp_facts {P : Nat → Nat → Vl} {N : Nat → Nat → Nat} {c : Nat} (h : ∀ a t, a + c < 4611686018427387904 → t < 5 → TyV t (P a t) ∧ N a t ≤ a + c) :
    ∀ (fs : List Nat) (a : Nat), (∀ u ∈ fs, u < 5) → a + fs.length * c < 4611686018427387904 →
    (vtp P N fs a).1.length = fs.length ∧ (∀ (i : Nat) (x : Vl) u, (vtp P N fs a).1[i]? = some x → fs[i]? = some u → TyV u x) ∧ (vtp P N fs a).2 ≤ a + fs.length * c
  | [], a, _, _ => ⟨rfl, fun i x u hx => by simp [vtp] at hx, by simp [vtp]⟩
  | v :: fs, a, h5, hb => by
    have e1 : (v :: fs).length * c = c + fs.length * c := by rw [List.length_cons, Nat.add_mul, Nat.one_mul, Nat.add_comm]
    rw [e1] at hb ⊢
    obtain ⟨h1, h2⟩ := h a v (by omega) (h5 v (by simp))
    obtain ⟨k1, k2, k3⟩ := vtp_facts h fs (N a v) (fun u hu => h5 u (by simp [hu])) (by omega)
    refine ⟨by simp [vtp, k1], fun i x u hx hu => ?_, by simp only [vtp]; omega⟩
    cases i with
    | zero => simp [vtp] at hx hu; subst hx; subst hu; exact h1
    | succ i => exact k2 i x u (by simpa [vtp] using hx) (by simpa using hu)

abbrev aVl (f n : Int) (s : ByteArray) (k : List AV) : AV := .agg [.lit (.int .i64 f), .lit (.int .i64 n), .lit (.string s), .sl k]
theorem aVl_eq (f n : Int) (s : ByteArray) (k : List Vl) : aVl f n s (eVls k) = eVl (.mk f n s k) := by
  unfold aVl eVl
  rw [Vl.eKids_eq]; rfl

theorem val_int {l : List Int} {a d n : Nat} (ha : a < 4611686018427387904) (hpick : ACall Try.prog n_fugueref20_pick [.sl (eIs l), .lit (.int .i64 (a : Nat))] (.lit (.int .i64 (n : Nat)))) :
    ACall Try.prog n_fugueref20_Val [.sl (eIs l), .lit (.int .i64 (a : Nat)), .lit (.int .i64 0), .lit (.int .i64 (d : Nat))] (.tup [eVl (.mk 2 ((n : Int).tmod 6) .empty []), .lit (.int .i64 ((a + 1 : Nat) : Int))]) := by
  rw [← wrap_succ (k := a) (by omega)]
  refine acall_of_wcx ttok mixed Try.func19 rfl (by rfl) (Nat.le_of_ble_eq_true rfl) (by kernel_rfl) ?_
  refine .inl ⟨_, hpick, ?_⟩
  refine ⟨fun _ => ?_, fun h => absurd h (by decide)⟩
  refine ⟨by decide, ?_⟩
  exact rfl

theorem wCons_first {t : Nat} (h0 : 0 < t) (h5 : t < 5) : ∃ q r, wCons t = q :: r ∧ q.2 = [] := by
  match t, h0, h5 with
  | 1, _, _ | 2, _, _ | 3, _, _ | 4, _, _ => exact ⟨_, _, rfl, rfl⟩
  | n + 5, _, h => omega

theorem val_con {l : List Int} {a t d n : Nat} {P : Nat → Nat → Vl} {N : Nat → Nat → Nat} {c : Nat} (ha : a + (1 + 2 * c) < 4611686018427387904) (h0 : 0 < t) (h5 : t < 5) (hd : d < 1000)
    (hpick : ACall Try.prog n_fugueref20_pick [.sl (eIs l), .lit (.int .i64 (a : Nat))] (.lit (.int .i64 (n : Nat))))
    {k : Nat} (hk : k = if d = 0 then 0 else n % (wCons t).length) (hkl : k < (wCons t).length)
    (hP : d ≠ 0 → ∀ a t, a + c < 4611686018427387904 → t < 5 → ACall Try.prog n_fugueref20_Val [.sl (eIs l), .lit (.int .i64 (a : Nat)), .lit (.int .i64 (t : Nat)), .lit (.int .i64 (IntKind.i64.wrap ((d : Int) - 1)))] (.tup [eVl (P a t), .lit (.int .i64 (N a t : Nat))]))
    (hF : ∀ a t, a + c < 4611686018427387904 → t < 5 → TyV t (P a t) ∧ N a t ≤ a + c) :
    ACall Try.prog n_fugueref20_Val [.sl (eIs l), .lit (.int .i64 (a : Nat)), .lit (.int .i64 (t : Nat)), .lit (.int .i64 (d : Nat))]
      (.tup [eVl (.mk 1 0 (wCons t)[k].1 (vtp P N (wCons t)[k].2 (a + 1)).1), .lit (.int .i64 ((vtp P N (wCons t)[k].2 (a + 1)).2 : Nat))]) := by
  have hwf := worldFields_ok t ⟨h0, h5⟩
  have hl1 : (eSs ((wCons t).map (·.1))).length = (wCons t).length := by simp [eSs]
  have hlen := wCons_len h0 h5
  have hfs := wCons_fs (List.getElem_mem hkl)
  have hnm : (eSs ((wCons t).map (·.1)))[k]? = some (.lit (.string (wCons t)[k].1)) := by simp [eSs, hkl]
  have hfi : (eFs (wCons t))[k]? = some (.sl (eIs ((wCons t)[k].2.map Int.ofNat))) := by simp [eFs, hkl]
  have hd0 : d = 0 → (wCons t)[k].2 = [] := fun h => by
    obtain ⟨q, r, e1, e2⟩ := wCons_first h0 h5
    have hk0 : k = 0 := by rw [hk, if_pos h]
    subst hk0
    simp only [e1, List.getElem_cons_zero]
    exact e2
  generalize hq : (wCons t)[k] = q at *
  obtain ⟨nm, fs⟩ := q
  simp only at hfs hnm hfi hd0 ⊢
  have lenF : (eIs (fs.map Int.ofNat)).length = fs.length := by simp [eIs]
  have stT : ∀ i, (vtp P N (fs.take i) (a + 1)).1.length ≤ 2 ∧ (vtp P N (fs.take i) (a + 1)).2 ≤ a + 1 + i * c := fun i => by
    have hm : (fs.take i).length ≤ i := List.length_take_le _ _
    have hm2 : (fs.take i).length * c ≤ i * c := Nat.mul_le_mul_right _ hm
    have hm3 : (fs.take i).length * c ≤ 2 * c := Nat.mul_le_mul_right _ (by simp; omega)
    obtain ⟨s1, _, s2⟩ := vtp_facts hF (fs.take i) (a + 1) (fun u hu => hfs.2.1 u (List.mem_of_mem_take hu)) (by omega)
    exact ⟨by rw [s1]; simp; omega, by omega⟩
  -- behind the choice of the constructor
  have tail : Wsem Try.prog (sndC (sndC (sndC (sndC (sndC (sndC (sndC (bodyC Try.f19)))))))) (mkC { vs := [(0, .v (.sl (eIs l))), (1, sv ((a + 1 : Nat) : Int)), (3, sv (d : Nat)), (8, .box 0 (eVl (.mk 0 0 .empty []))), (11, .v (.sl (eSs ((wCons t).map (·.1))))), (12, .v (.sl (eFs (wCons t)))), (13, sv (k : Nat))] })
      (fun c => RetP tt Try.f19.results.toList (.tup [eVl (.mk 1 0 nm (vtp P N fs (a + 1)).1), .lit (.int .i64 ((vtp P N fs (a + 1)).2 : Nat))]) (den c)) (fun _ _ => False)
      (fun c => RetP tt Try.f19.results.toList (.tup [eVl (.mk 1 0 nm (vtp P N fs (a + 1)).1), .lit (.int .i64 ((vtp P N fs (a + 1)).2 : Nat))]) (den c)) := by
    refine Wsem.of ttok mixed ?_
    refine ⟨_, by omega, hnm, rfl, ?_⟩
    refine ⟨{i : Nat // i ≤ fs.length}, fun i => { vs := [(0, .v (.sl (eIs l))), (1, sv ((vtp P N (fs.take i.1) (a + 1)).2 : Nat)), (3, sv (d : Nat)), (8, .box 0 (eVl (.mk 0 0 .empty []))), (12, .v (.sl (eFs (wCons t)))), (13, sv (k : Nat)),
      (14, .box 0 (aVl 1 0 nm (eVls (vtp P N (fs.take i.1) (a + 1)).1))), (15, sv (i.1 : Nat))], ow := [(14, 3, 5)] }, fun i => fs.length - i.1, ⟨0, Nat.zero_le _⟩, ⟨⟨rfl, rfl, rfl, rfl, rfl, rfl, rfl, rfl, trivial⟩, ⟨trivial, trivial⟩, rfl⟩, ?_⟩
    rintro ⟨i, hi⟩
    refine ⟨_, by omega, hfi, rfl, ?_⟩
    refine ⟨fun h => ?_, fun h => ?_⟩
    · have h : i < fs.length := by have h := of_decide_eq_true h; rw [lenF] at h; simp only at h; omega
      have hdn : d ≠ 0 := fun e => by have := hd0 e; rw [this] at h; simp at h
      have st2 := stT i
      have hib : i * c + c ≤ 2 * c := by have : (i + 1) * c ≤ 2 * c := Nat.mul_le_mul_right _ (by omega); rw [Nat.add_mul, Nat.one_mul] at this; exact this
      have hc := hP hdn (vtp P N (fs.take i) (a + 1)).2 fs[i] (by omega) (hfs.2.1 _ (List.getElem_mem h))
      refine ⟨_, by omega, hfi, rfl, ?_⟩
      refine ⟨.lit (.int .i64 (fs[i] : Nat)), by omega, by simp [eIs, h], rfl, ?_⟩
      refine .inl ⟨_, hc, ?_⟩
      refine ⟨by rw [lenV]; simp; omega, uniV _, uniMap (f := eVl) (fun _ => rfl) [_], ?_⟩
      have hs := vtp_snoc (P := P) (N := N) fs[i] (fs.take i) (a + 1)
      rw [← List.take_succ_eq_append_getElem h] at hs
      refine ⟨⟨i + 1, h⟩, by simp; omega, ⟨rfl, ?_, rfl, rfl, rfl, rfl, ?_, ?_, trivial⟩, ⟨rfl, trivial⟩, rfl⟩
      · show _ = SV.v (AV.lit (Value.int .i64 ((vtp P N (fs.take (i + 1)) (a + 1)).2 : Nat)))
        rw [hs]; rfl
      · show _ = SV.box _ (aVl 1 0 nm (eVls (vtp P N (fs.take (i + 1)) (a + 1)).1))
        rw [hs, show eVls ((vtp P N (fs.take i) (a + 1)).1 ++ [P (vtp P N (fs.take i) (a + 1)).2 fs[i]]) = eVls (vtp P N (fs.take i) (a + 1)).1 ++ [eVl (P (vtp P N (fs.take i) (a + 1)).2 fs[i])] by simp [eVls]]
        rfl
      · exact svc (wrap_succ (k := i) (by omega))
    · have h : i = fs.length := by have h := of_decide_eq_false h; rw [lenF] at h; simp only at h; omega
      subst h
      show AV.tup [aVl 1 0 nm (eVls (vtp P N (fs.take fs.length) (a + 1)).1), .lit (.int .i64 ((vtp P N (fs.take fs.length) (a + 1)).2 : Nat))] = _
      rw [List.take_length, aVl_eq]
  refine acall_of_wsem ttok mixed Try.func19 rfl (by rfl) (Nat.le_of_ble_eq_true rfl) (by kernel_rfl) ?_
  refine Wsem.seq ttok mixed ?_
  refine Wsem.seq ttok mixed ?_
  refine .inl ⟨_, hpick, ?_⟩
  refine Wsem.seq ttok mixed ?_
  refine Wsem.seq ttok mixed ?_
  refine ⟨fun h => by simp at h; omega, fun _ => ?_⟩
  refine Wsem.seq ttok mixed ?_
  refine .inl ⟨_, hwf, ?_⟩
  refine Wsem.seq ttok mixed ?_
  refine ⟨by rw [hl1]; omega, ?_⟩
  refine Wsem.seq ttok mixed ?_
  have wa : IntKind.i64.wrap ((a : Int) + 1) = ((a + 1 : Nat) : Int) := wrap_succ (by omega)
  by_cases hd0' : d = 0
  · refine ⟨fun hbs => ?_, fun hbs => ?_⟩ <;> first | (exfalso; revert hbs; (simp [hd0']); done) | skip
    refine Wsem.cut _ ?_ tail
    exact ⟨⟨rfl, svc wa, rfl, rfl, rfl, rfl, svc (by rw [hk, if_pos hd0']; rfl), trivial⟩, trivial, rfl⟩
  · refine ⟨fun hbs => ?_, fun hbs => ?_⟩ <;> first | (exfalso; revert hbs; (simp [hd0']); done) | skip
    refine Wsem.cut _ ?_ tail
    refine ⟨⟨rfl, svc wa, rfl, rfl, rfl, rfl, svc ?_, trivial⟩, trivial, rfl⟩
    rw [hk, if_neg hd0', hl1]; rfl

def capV : Nat → Nat
  | 0 => 1
  | d + 1 => 1 + 2 * capV d
theorem val_ok {l : List Int} (hr : ∀ x ∈ l, InR x) : ∀ (d : Nat), d ≤ 4 → ∀ (a t : Nat), a + 3 * capV d < 4611686018427387904 → t < 5 →
    ∃ v nx, ACall Try.prog n_fugueref20_Val [.sl (eIs l), .lit (.int .i64 (a : Nat)), .lit (.int .i64 (t : Nat)), .lit (.int .i64 (d : Nat))] (.tup [eVl v, .lit (.int .i64 (nx : Nat))]) ∧ TyV t v ∧ nx ≤ a + 3 * capV d := by
  have c1 : ∀ d, 1 ≤ capV d := fun d => by cases d <;> simp [capV]
  intro d
  induction d with
  | zero =>
    intro _ a t ha ht
    obtain ⟨n, hn, hp⟩ := pick20_ok (l := l) (k := a) hr
    simp only [capV] at ha ⊢
    by_cases h0 : t = 0
    · subst h0
      exact ⟨_, _, val_int (d := 0) (by omega) hp, .int _ rfl, by omega⟩
    · have hlen := wCons_len (by omega) ht
      let P : Nat → Nat → Vl := fun _ t => if h : t < 5 then (inhab h).choose else .mk 0 0 .empty []
      have hF : ∀ a t, a + 0 < 4611686018427387904 → t < 5 → TyV t (P a t) ∧ a ≤ a + 0 := fun a t _ h => by
        simp only [P, dif_pos h]
        exact ⟨(inhab h).choose_spec, Nat.le_refl _⟩
      have hc := val_con (P := P) (N := fun a _ => a) (c := 0) (t := t) (d := 0) (by omega) (by omega) ht (by decide) hp (k := 0) rfl hlen.1 (fun h => absurd rfl h) hF
      have hfs := wCons_fs (List.getElem_mem hlen.1)
      obtain ⟨s1, s2, s3⟩ := vtp_facts (P := P) (N := fun a _ => a) (c := 0) hF (wCons t)[0].2 (a + 1) hfs.2.1 (by omega)
      exact ⟨_, _, hc, .con t _ _ rfl (List.getElem_mem hlen.1) s1 s2, by omega⟩
  | succ d ih =>
    intro hd a t ha ht
    obtain ⟨n, hn, hp⟩ := pick20_ok (l := l) (k := a) hr
    simp only [capV] at ha ⊢
    by_cases h0 : t = 0
    · subst h0
      exact ⟨_, _, val_int (d := d + 1) (by omega) hp, .int _ rfl, by omega⟩
    · have hlen := wCons_len (by omega) ht
      have ih' := ih (by omega)
      let P : Nat → Nat → Vl := fun a t => if h : a + 3 * capV d < 4611686018427387904 ∧ t < 5 then (ih' a t h.1 h.2).choose else .mk 0 0 .empty []
      let N : Nat → Nat → Nat := fun a t => if h : a + 3 * capV d < 4611686018427387904 ∧ t < 5 then (ih' a t h.1 h.2).choose_spec.choose else 0
      have hPN : ∀ a t, a + 3 * capV d < 4611686018427387904 → t < 5 → ACall Try.prog n_fugueref20_Val [.sl (eIs l), .lit (.int .i64 (a : Nat)), .lit (.int .i64 (t : Nat)), .lit (.int .i64 (d : Nat))] (.tup [eVl (P a t), .lit (.int .i64 (N a t : Nat))]) ∧ TyV t (P a t) ∧ N a t ≤ a + 3 * capV d := fun a t h1 h2 => by
        have := (ih' a t h1 h2).choose_spec.choose_spec
        simp only [P, N, dif_pos (show a + 3 * capV d < 4611686018427387904 ∧ t < 5 from ⟨h1, h2⟩)]
        exact this
      have hk : n % (wCons t).length < (wCons t).length := Nat.mod_lt _ hlen.1
      have wd : IntKind.i64.wrap (((d + 1 : Nat) : Int) - 1) = (d : Int) := wrap_pred (by omega)
      have hF : ∀ a t, a + 3 * capV d < 4611686018427387904 → t < 5 → TyV t (P a t) ∧ N a t ≤ a + 3 * capV d := fun a t h1 h2 => (hPN a t h1 h2).2
      have hc := val_con (P := P) (N := N) (c := 3 * capV d) (t := t) (d := d + 1) (by omega) (by omega) ht (by omega) hp (k := n % (wCons t).length) (by rw [if_neg (by omega)]) hk (fun _ a t h1 h2 => by rw [wd]; exact (hPN a t h1 h2).1) hF
      have hfs := wCons_fs (List.getElem_mem hk)
      have hm2 : (wCons t)[n % (wCons t).length].2.length * (3 * capV d) ≤ 2 * (3 * capV d) := Nat.mul_le_mul_right _ hfs.1
      obtain ⟨s1, s2, s3⟩ := vtp_facts (P := P) (N := N) (c := 3 * capV d) hF (wCons t)[n % (wCons t).length].2 (a + 1) hfs.2.1 (by omega)
      exact ⟨_, _, hc, .con t _ _ rfl (List.getElem_mem hk) s1 s2, by omega⟩

/-! ### what a pattern takes -/

mutual
def fillV (v0 : Vl) : Pt → Vl
  | .mk f n s _ _ k => if f = 3 then .mk 2 n .empty [] else if f ≠ 4 then v0 else .mk 1 0 s (fillL v0 k)
def fillL (v0 : Vl) : List Pt → List Vl
  | [] => []
  | p :: r => fillV v0 p :: fillL v0 r
end
theorem fillV_eq (v0 : Vl) (p : Pt) : fillV v0 p = if p.f = 3 then .mk 2 p.n .empty [] else if p.f ≠ 4 then v0 else .mk 1 0 p.s (fillL v0 p.k) := by cases p; rw [fillV]; rfl
theorem fillL_map (v0 : Vl) : ∀ l : List Pt, fillL v0 l = l.map (fillV v0)
  | [] => by rw [fillL]; rfl
  | p :: r => by rw [fillL, fillL_map v0 r]; rfl

/-- Of forms that are: 1, 3, 4. -/
inductive Good : Pt → Prop
  | wild (p : Pt) (h : p.f = 1) : Good p
  | int (p : Pt) (h : p.f = 3) : Good p
  | con (p : Pt) (h : p.f = 4) (hk : ∀ x ∈ p.k, Good x) : Good p
theorem takesL_map {f : Pt → Vl} : ∀ {l : List Pt}, (∀ p ∈ l, takes p (f p) = true) → takesL l (l.map f) = true
  | [], _ => by simp [takesL]
  | p :: l, h => by
    rw [List.map_cons, takesL, h p (by simp), takesL_map (fun q hq => h q (by simp [hq]))]; rfl
theorem good_takes {v0 : Vl} {p : Pt} (h : Good p) : takes p (fillV v0 p) = true := by
  induction h with
  | wild p h => exact takes_opn (by simp [Pt.opn, h]) _
  | int p h =>
    rw [fillV_eq, if_pos h, takes_eq]
    simp [h, Vl.f, Vl.n]
  | con p h hk ih =>
    rw [fillV_eq, if_neg (by omega), if_neg (by simp [h]), takes_eq, fillL_map]
    simp [h, Vl.f, Vl.s, Vl.k, takesL_map ih]

theorem miss_good : ∀ (n : Nat) (l : List Rw) (c : Nat) (m : List Pt), miss n l c = some m → ∀ p ∈ m, Good p
  | 0, _, _, _, h => by simp [miss] at h
  | n + 1, l, 0, m, h => by
    cases l with
    | nil => simp [miss] at h; subst h; simp
    | cons r l => simp [miss] at h
  | n + 1, l, c + 1, m, h => by
    unfold miss at h
    split at h
    · obtain ⟨q, _, hq⟩ := List.exists_of_findSome?_eq_some h
      obtain ⟨m', hm, rfl⟩ := Option.map_eq_some_iff.1 hq
      have ih := miss_good n _ _ _ hm
      intro p hp
      rcases List.mem_cons.1 hp with rfl | hp
      · exact .con _ rfl (fun x hx => ih x (List.mem_of_mem_take hx))
      · exact ih p (List.mem_of_mem_drop hp)
    · split at h
      · rename_i m' hm
        injection h with h; subst h
        intro p hp
        rcases List.mem_cons.1 hp with rfl | hp
        · unfold ownOf
          split
          · exact .wild _ rfl
          · exact .int _ rfl
        · exact miss_good n _ _ _ hm p hp
      · obtain ⟨q, _, hq⟩ := List.exists_of_findSome?_eq_some h
        obtain ⟨m', hm, rfl⟩ := Option.map_eq_some_iff.1 hq
        intro p hp
        rcases List.mem_cons.1 hp with rfl | hp
        · exact .int _ rfl
        · exact miss_good n _ _ _ hm p hp

theorem Fill_ok (v0 : Vl) : ∀ (n : Nat) (p : Pt), p.sz ≤ n → n < 10000 → ACall Try.prog n_fugueref20_Fill [ePt p, eVl v0] (eVl (fillV v0 p)) := by
  intro n
  induction n with
  | zero => intro p h; have := kids_sz p; omega
  | succ n ih =>
    intro p h hn
    have hks := kids_sz p
    have hel : p.eKids.length = p.k.length := by rw [p.eKids_eq, lenP]
    rw [fillV_eq]
    refine acall_of_wcx ttok mixed Try.func21 rfl (by rfl) (Nat.le_of_ble_eq_true rfl) (by kernel_rfl) ?_
    by_cases h3 : p.f = 3
    · rw [if_pos h3]
      refine ⟨fun hbs => ?_, fun hbs => ?_⟩ <;> first | (exfalso; revert hbs; (simp [h3]); done) | skip
      exact rfl
    rw [if_neg h3]
    refine ⟨fun hbs => ?_, fun hbs => ?_⟩ <;> first | (exfalso; revert hbs; (simp [h3]); done) | skip
    by_cases h4 : p.f = 4
    · rw [if_neg (by simp [h4])]
      refine ⟨fun hbs => ?_, fun hbs => ?_⟩ <;> first | (exfalso; revert hbs; (simp [h4]); done) | skip
      refine ⟨{i : Nat // i ≤ p.k.length}, fun i => { vs := [(2, .box 0 (ePt p)), (3, .box 0 (eVl v0)), (4, .box 0 (eVl (.mk 0 0 .empty []))), (5, .box 0 (aVl 1 0 p.s (eVls (fillL v0 (p.k.take i.1))))), (6, sv (i.1 : Nat))], ow := [(5, 3, 5)] },
        fun i => p.k.length - i.1, ⟨0, Nat.zero_le _⟩, ⟨⟨rfl, rfl, rfl, ?_, rfl, trivial⟩, ⟨trivial, trivial⟩, rfl⟩, ?_⟩
      · rw [List.take_zero, fillL]; exact rfl
      rintro ⟨i, hi⟩
      refine ⟨fun h1 => ?_, fun h1 => ?_⟩
      · have h1 : i < p.k.length := by have h1 := of_decide_eq_true h1; simp only [hel] at h1; omega
        have hg : p.eKids[i]? = some (ePt p.k[i]) := by rw [p.eKids_eq]; exact getP h1
        have hs := sz_kid (List.getElem_mem h1)
        have hc := ih p.k[i] (by omega) (by omega)
        have hll : (eVls (fillL v0 (p.k.take i))).length ≤ i := by rw [lenV, fillL_map]; simp; omega
        refine ⟨_, by omega, hg, rfl, ?_⟩
        refine .inl ⟨_, hc, ?_⟩
        refine ⟨by simp; omega, uniV _, uniMap (f := eVl) (fun _ => rfl) [_], ?_⟩
        refine ⟨by kernel_rfl, ?_⟩
        refine ⟨⟨i + 1, h1⟩, by simp; omega, ⟨rfl, rfl, rfl, ?_, svc (wrap_succ (k := i) (by omega)), trivial⟩, ⟨rfl, trivial⟩, rfl⟩
        show _ = SV.box _ (aVl 1 0 p.s (eVls (fillL v0 (p.k.take (i + 1)))))
        rw [fillL_map, fillL_map, List.take_succ_eq_append_getElem h1, List.map_append]
        rw [show eVls ((p.k.take i).map (fillV v0) ++ [p.k[i]].map (fillV v0)) = eVls ((p.k.take i).map (fillV v0)) ++ [eVl (fillV v0 p.k[i])] by simp [eVls]]
        rfl
      · have h1 : i = p.k.length := by have h1 := of_decide_eq_false h1; simp only [hel] at h1; omega
        subst h1
        show aVl 1 0 p.s (eVls (fillL v0 (p.k.take p.k.length))) = _
        rw [List.take_length, aVl_eq]
    · rw [if_pos h4]
      refine ⟨fun hbs => ?_, fun hbs => ?_⟩ <;> first | (exfalso; revert hbs; (simp [h4]); done) | skip
      exact rfl
end Go.Proofs.Ytefdahofpjmnfaa
