/- Values made; values that a pattern takes, made. No condition. -/
import Derived.Test.YtefdahofpjmnfaaDoorE
set_option linter.unusedSimpArgs false
set_option linter.unusedVariables false
namespace Go.Proofs.YtefdahofpjmnfaaDoor
open Go Fp
set_option maxRecDepth 10000
set_option maxHeartbeats 16000000

/-- Values made one behind the other. -/
def vtp (P : Nat → Nat → Vl) (N : Nat → Nat → Nat) : List Nat → Nat → List Vl × Nat
  | [], a => ([], a)
  | u :: fs, a => (P a u :: (vtp P N fs (N a u)).1, (vtp P N fs (N a u)).2)
theorem vtp_snoc {P : Nat → Nat → Vl} {N : Nat → Nat → Nat} (u : Nat) : ∀ (fs : List Nat) (a : Nat), vtp P N (fs ++ [u]) a = ((vtp P N fs a).1 ++ [P (vtp P N fs a).2 u], N (vtp P N fs a).2 u)
  | [], a => rfl
  | v :: fs, a => by simp only [List.cons_append, vtp, vtp_snoc u fs]
theorem vtp_facts {P : Nat → Nat → Vl} {N : Nat → Nat → Nat} {c : Nat} (h : ∀ a t, a + c < 4611686018427387904 → t < 5 → TyV t (P a t) ∧ N a t ≤ a + c) :
    ∀ (fs : List Nat) (a : Nat), (∀ u ∈ fs, u < 5) → a + fs.length * c < 4611686018427387904 →
    (vtp P N fs a).1.length = fs.length ∧ (∀ (i : Nat) (x : Vl) u, (vtp P N fs a).1[i]? = some x → fs[i]? = some u → TyV u x) ∧ (vtp P N fs a).2 ≤ a + fs.length * c
  | [], a, _, _ => ⟨rfl, fun i x u hx => by simp [vtp] at hx, by simp [vtp]⟩
  | v :: fs, a, h5, hb => by
    have e1 : (v :: fs).length * c = c + fs.length * c := by rw [List.length_cons, Nat.add_mul, Nat.one_mul, Nat.add_comm]
    rw [e1] at hb ⊢
    obtain ⟨h1, h2⟩ := h a v (by omega) (h5 v (by simp))
    obtain ⟨k1, k2, k3⟩ := vtp_facts h fs (N a v) (fun u hu => h5 u (by simp [hu])) (by omega)
    refine ⟨by simp [vtp, k1], fun i x u hx hu => ?_, by simp only [vtp]; omega⟩
    cases i with
    | zero => simp [vtp] at hx hu; subst hx; subst hu; exact h1
    | succ i => exact k2 i x u (by simpa [vtp] using hx) (by simpa using hu)

abbrev aVl (f n : Int) (s : ByteArray) (k : List AV) : AV := .agg [.lit (.int .i64 f), .lit (.int .i64 n), .lit (.string s), .sl k]
theorem aVl_eq (f n : Int) (s : ByteArray) (k : List Vl) : aVl f n s (eVls k) = eVl (.mk f n s k) := by
  unfold aVl eVl
  rw [Vl.eKids_eq]; rfl

theorem val_int {l : List Int} {a d n : Nat} (ha : a < 4611686018427387904) (hpick : ACall Tryd.prog n_fugueref20_pick [.sl (eIs l), .lit (.int .i64 (a : Nat))] (.lit (.int .i64 (n : Nat)))) :
    ACall Tryd.prog n_fugueref20_Val [.sl (eIs l), .lit (.int .i64 (a : Nat)), .lit (.int .i64 0), .lit (.int .i64 (d : Nat))] (.tup [eVl (.mk 2 ((n : Int).tmod 6) .empty []), .lit (.int .i64 ((a + 1 : Nat) : Int))]) := by
  rw [← wrap_succ (k := a) (by omega)]
  refine acall_of_wcx ttok mixed Tryd.func16 rfl (by rfl) (Nat.le_of_ble_eq_true rfl) (by kernel_rfl) ?_
  refine .inl ⟨_, hpick, ?_⟩
  refine ⟨fun _ => ?_, fun h => absurd h (by decide)⟩
  refine ⟨by decide, ?_⟩
  exact rfl

theorem wCons_first {t : Nat} (h0 : 0 < t) (h5 : t < 5) : ∃ q r, wCons t = q :: r ∧ q.2 = [] := by
  match t, h0, h5 with
  | 1, _, _ | 2, _, _ | 3, _, _ | 4, _, _ => exact ⟨_, _, rfl, rfl⟩
  | n + 5, _, h => omega

theorem val_con {l : List Int} {a t d n : Nat} {P : Nat → Nat → Vl} {N : Nat → Nat → Nat} {c : Nat} (ha : a + (1 + 2 * c) < 4611686018427387904) (h0 : 0 < t) (h5 : t < 5) (hd : d < 1000)
    (hpick : ACall Tryd.prog n_fugueref20_pick [.sl (eIs l), .lit (.int .i64 (a : Nat))] (.lit (.int .i64 (n : Nat))))
    {k : Nat} (hk : k = if d = 0 then 0 else n % (wCons t).length) (hkl : k < (wCons t).length)
    (hP : d ≠ 0 → ∀ a t, a + c < 4611686018427387904 → t < 5 → ACall Tryd.prog n_fugueref20_Val [.sl (eIs l), .lit (.int .i64 (a : Nat)), .lit (.int .i64 (t : Nat)), .lit (.int .i64 (IntKind.i64.wrap ((d : Int) - 1)))] (.tup [eVl (P a t), .lit (.int .i64 (N a t : Nat))]))
    (hF : ∀ a t, a + c < 4611686018427387904 → t < 5 → TyV t (P a t) ∧ N a t ≤ a + c) :
    ACall Tryd.prog n_fugueref20_Val [.sl (eIs l), .lit (.int .i64 (a : Nat)), .lit (.int .i64 (t : Nat)), .lit (.int .i64 (d : Nat))]
      (.tup [eVl (.mk 1 0 (wCons t)[k].1 (vtp P N (wCons t)[k].2 (a + 1)).1), .lit (.int .i64 ((vtp P N (wCons t)[k].2 (a + 1)).2 : Nat))]) := by
  have hwf := worldFields_ok t ⟨h0, h5⟩
  have hl1 : (eSs ((wCons t).map (·.1))).length = (wCons t).length := by simp [eSs]
  have hlen := wCons_len h0 h5
  have hfs := wCons_fs (List.getElem_mem hkl)
  have hnm : (eSs ((wCons t).map (·.1)))[k]? = some (.lit (.string (wCons t)[k].1)) := by simp [eSs, hkl]
  have hfi : (eFs (wCons t))[k]? = some (.sl (eIs ((wCons t)[k].2.map Int.ofNat))) := by simp [eFs, hkl]
  have hd0 : d = 0 → (wCons t)[k].2 = [] := fun h => by
    obtain ⟨q, r, e1, e2⟩ := wCons_first h0 h5
    have hk0 : k = 0 := by rw [hk, if_pos h]
    subst hk0
    simp only [e1, List.getElem_cons_zero]
    exact e2
  generalize hq : (wCons t)[k] = q at *
  obtain ⟨nm, fs⟩ := q
  simp only at hfs hnm hfi hd0 ⊢
  have lenF : (eIs (fs.map Int.ofNat)).length = fs.length := by simp [eIs]
  have stT : ∀ i, (vtp P N (fs.take i) (a + 1)).1.length ≤ 2 ∧ (vtp P N (fs.take i) (a + 1)).2 ≤ a + 1 + i * c := fun i => by
    have hm : (fs.take i).length ≤ i := List.length_take_le _ _
    have hm2 : (fs.take i).length * c ≤ i * c := Nat.mul_le_mul_right _ hm
    have hm3 : (fs.take i).length * c ≤ 2 * c := Nat.mul_le_mul_right _ (by simp; omega)
    obtain ⟨s1, _, s2⟩ := vtp_facts hF (fs.take i) (a + 1) (fun u hu => hfs.2.1 u (List.mem_of_mem_take hu)) (by omega)
    exact ⟨by rw [s1]; simp; omega, by omega⟩
  -- behind the choice of the constructor
  have tail : Wsem Tryd.prog (sndC (sndC (sndC (sndC (sndC (sndC (sndC (bodyC Tryd.f16)))))))) (mkC { vs := [(0, .v (.sl (eIs l))), (1, sv ((a + 1 : Nat) : Int)), (3, sv (d : Nat)), (8, .box 0 (eVl (.mk 0 0 .empty []))), (11, .v (.sl (eSs ((wCons t).map (·.1))))), (12, .v (.sl (eFs (wCons t)))), (13, sv (k : Nat))] })
      (fun c => RetP tt Tryd.f16.results.toList (.tup [eVl (.mk 1 0 nm (vtp P N fs (a + 1)).1), .lit (.int .i64 ((vtp P N fs (a + 1)).2 : Nat))]) (den c)) (fun _ _ => False)
      (fun c => RetP tt Tryd.f16.results.toList (.tup [eVl (.mk 1 0 nm (vtp P N fs (a + 1)).1), .lit (.int .i64 ((vtp P N fs (a + 1)).2 : Nat))]) (den c)) := by
    refine Wsem.of ttok mixed ?_
    refine ⟨_, by omega, hnm, rfl, ?_⟩
    refine ⟨{i : Nat // i ≤ fs.length}, fun i => { vs := [(0, .v (.sl (eIs l))), (1, sv ((vtp P N (fs.take i.1) (a + 1)).2 : Nat)), (3, sv (d : Nat)), (8, .box 0 (eVl (.mk 0 0 .empty []))), (12, .v (.sl (eFs (wCons t)))), (13, sv (k : Nat)),
      (14, .box 0 (aVl 1 0 nm (eVls (vtp P N (fs.take i.1) (a + 1)).1))), (15, sv (i.1 : Nat))], ow := [(14, 3, 5)] }, fun i => fs.length - i.1, ⟨0, Nat.zero_le _⟩, ⟨⟨rfl, rfl, rfl, rfl, rfl, rfl, rfl, rfl, trivial⟩, ⟨trivial, trivial⟩, rfl⟩, ?_⟩
    rintro ⟨i, hi⟩
    refine ⟨_, by omega, hfi, rfl, ?_⟩
    refine ⟨fun h => ?_, fun h => ?_⟩
    · have h : i < fs.length := by have h := of_decide_eq_true h; rw [lenF] at h; simp only at h; omega
      have hdn : d ≠ 0 := fun e => by have := hd0 e; rw [this] at h; simp at h
      have st2 := stT i
      have hib : i * c + c ≤ 2 * c := by have : (i + 1) * c ≤ 2 * c := Nat.mul_le_mul_right _ (by omega); rw [Nat.add_mul, Nat.one_mul] at this; exact this
      have hc := hP hdn (vtp P N (fs.take i) (a + 1)).2 fs[i] (by omega) (hfs.2.1 _ (List.getElem_mem h))
      refine ⟨_, by omega, hfi, rfl, ?_⟩
      refine ⟨.lit (.int .i64 (fs[i] : Nat)), by omega, by simp [eIs, h], rfl, ?_⟩
      refine .inl ⟨_, hc, ?_⟩
      refine ⟨by rw [lenV]; simp; omega, uniV _, uniMap (f := eVl) (fun _ => rfl) [_], ?_⟩
      have hs := vtp_snoc (P := P) (N := N) fs[i] (fs.take i) (a + 1)
      rw [← List.take_succ_eq_append_getElem h] at hs
      refine ⟨⟨i + 1, h⟩, by simp; omega, ⟨rfl, ?_, rfl, rfl, rfl, rfl, ?_, ?_, trivial⟩, ⟨rfl, trivial⟩, rfl⟩
      · show _ = SV.v (AV.lit (Value.int .i64 ((vtp P N (fs.take (i + 1)) (a + 1)).2 : Nat)))
        rw [hs]; rfl
      · show _ = SV.box _ (aVl 1 0 nm (eVls (vtp P N (fs.take (i + 1)) (a + 1)).1))
        rw [hs, show eVls ((vtp P N (fs.take i) (a + 1)).1 ++ [P (vtp P N (fs.take i) (a + 1)).2 fs[i]]) = eVls (vtp P N (fs.take i) (a + 1)).1 ++ [eVl (P (vtp P N (fs.take i) (a + 1)).2 fs[i])] by simp [eVls]]
        rfl
      · exact svc (wrap_succ (k := i) (by omega))
    · have h : i = fs.length := by have h := of_decide_eq_false h; rw [lenF] at h; simp only at h; omega
      subst h
      show AV.tup [aVl 1 0 nm (eVls (vtp P N (fs.take fs.length) (a + 1)).1), .lit (.int .i64 ((vtp P N (fs.take fs.length) (a + 1)).2 : Nat))] = _
      rw [List.take_length, aVl_eq]
  refine acall_of_wsem ttok mixed Tryd.func16 rfl (by rfl) (Nat.le_of_ble_eq_true rfl) (by kernel_rfl) ?_
  refine Wsem.seq ttok mixed ?_
  refine Wsem.seq ttok mixed ?_
  refine .inl ⟨_, hpick, ?_⟩
  refine Wsem.seq ttok mixed ?_
  refine Wsem.seq ttok mixed ?_
  refine ⟨fun h => by simp at h; omega, fun _ => ?_⟩
  refine Wsem.seq ttok mixed ?_
  refine .inl ⟨_, hwf, ?_⟩
  refine Wsem.seq ttok mixed ?_
  refine ⟨by rw [hl1]; omega, ?_⟩
  refine Wsem.seq ttok mixed ?_
  have wa : IntKind.i64.wrap ((a : Int) + 1) = ((a + 1 : Nat) : Int) := wrap_succ (by omega)
  by_cases hd0' : d = 0
  · refine ⟨fun hbs => ?_, fun hbs => ?_⟩ <;> first | (exfalso; revert hbs; (simp [hd0']); done) | skip
    refine Wsem.cut _ ?_ tail
    exact ⟨⟨rfl, svc wa, rfl, rfl, rfl, rfl, svc (by rw [hk, if_pos hd0']; rfl), trivial⟩, trivial, rfl⟩
  · refine ⟨fun hbs => ?_, fun hbs => ?_⟩ <;> first | (exfalso; revert hbs; (simp [hd0']); done) | skip
    refine Wsem.cut _ ?_ tail
    refine ⟨⟨rfl, svc wa, rfl, rfl, rfl, rfl, svc ?_, trivial⟩, trivial, rfl⟩
    rw [hk, if_neg hd0', hl1]; rfl

def capV : Nat → Nat
  | 0 => 1
  | d + 1 => 1 + 2 * capV d
theorem val_ok {l : List Int} (hr : ∀ x ∈ l, InR x) : ∀ (d : Nat), d ≤ 4 → ∀ (a t : Nat), a + 3 * capV d < 4611686018427387904 → t < 5 →
    ∃ v nx, ACall Tryd.prog n_fugueref20_Val [.sl (eIs l), .lit (.int .i64 (a : Nat)), .lit (.int .i64 (t : Nat)), .lit (.int .i64 (d : Nat))] (.tup [eVl v, .lit (.int .i64 (nx : Nat))]) ∧ TyV t v ∧ nx ≤ a + 3 * capV d := by
  have c1 : ∀ d, 1 ≤ capV d := fun d => by cases d <;> simp [capV]
  intro d
  induction d with
  | zero =>
    intro _ a t ha ht
    obtain ⟨n, hn, hp⟩ := pick20_ok (l := l) (k := a) hr
    simp only [capV] at ha ⊢
    by_cases h0 : t = 0
    · subst h0
      exact ⟨_, _, val_int (d := 0) (by omega) hp, .int _ rfl rfl, by omega⟩
    · have hlen := wCons_len (by omega) ht
      let P : Nat → Nat → Vl := fun _ t => if h : t < 5 then (inhab h).choose else .mk 0 0 .empty []
      have hF : ∀ a t, a + 0 < 4611686018427387904 → t < 5 → TyV t (P a t) ∧ a ≤ a + 0 := fun a t _ h => by
        simp only [P, dif_pos h]
        exact ⟨(inhab h).choose_spec, Nat.le_refl _⟩
      have hc := val_con (P := P) (N := fun a _ => a) (c := 0) (t := t) (d := 0) (by omega) (by omega) ht (by decide) hp (k := 0) rfl hlen.1 (fun h => absurd rfl h) hF
      have hfs := wCons_fs (List.getElem_mem hlen.1)
      obtain ⟨s1, s2, s3⟩ := vtp_facts (P := P) (N := fun a _ => a) (c := 0) hF (wCons t)[0].2 (a + 1) hfs.2.1 (by omega)
      exact ⟨_, _, hc, .con t _ _ rfl (List.getElem_mem hlen.1) s1 s2, by omega⟩
  | succ d ih =>
    intro hd a t ha ht
    obtain ⟨n, hn, hp⟩ := pick20_ok (l := l) (k := a) hr
    simp only [capV] at ha ⊢
    by_cases h0 : t = 0
    · subst h0
      exact ⟨_, _, val_int (d := d + 1) (by omega) hp, .int _ rfl rfl, by omega⟩
    · have hlen := wCons_len (by omega) ht
      have ih' := ih (by omega)
      let P : Nat → Nat → Vl := fun a t => if h : a + 3 * capV d < 4611686018427387904 ∧ t < 5 then (ih' a t h.1 h.2).choose else .mk 0 0 .empty []
      let N : Nat → Nat → Nat := fun a t => if h : a + 3 * capV d < 4611686018427387904 ∧ t < 5 then (ih' a t h.1 h.2).choose_spec.choose else 0
      have hPN : ∀ a t, a + 3 * capV d < 4611686018427387904 → t < 5 → ACall Tryd.prog n_fugueref20_Val [.sl (eIs l), .lit (.int .i64 (a : Nat)), .lit (.int .i64 (t : Nat)), .lit (.int .i64 (d : Nat))] (.tup [eVl (P a t), .lit (.int .i64 (N a t : Nat))]) ∧ TyV t (P a t) ∧ N a t ≤ a + 3 * capV d := fun a t h1 h2 => by
        have := (ih' a t h1 h2).choose_spec.choose_spec
        simp only [P, N, dif_pos (show a + 3 * capV d < 4611686018427387904 ∧ t < 5 from ⟨h1, h2⟩)]
        exact this
      have hk : n % (wCons t).length < (wCons t).length := Nat.mod_lt _ hlen.1
      have wd : IntKind.i64.wrap (((d + 1 : Nat) : Int) - 1) = (d : Int) := wrap_pred (by omega)
      have hF : ∀ a t, a + 3 * capV d < 4611686018427387904 → t < 5 → TyV t (P a t) ∧ N a t ≤ a + 3 * capV d := fun a t h1 h2 => (hPN a t h1 h2).2
      have hc := val_con (P := P) (N := N) (c := 3 * capV d) (t := t) (d := d + 1) (by omega) (by omega) ht (by omega) hp (k := n % (wCons t).length) (by rw [if_neg (by omega)]) hk (fun _ a t h1 h2 => by rw [wd]; exact (hPN a t h1 h2).1) hF
      have hfs := wCons_fs (List.getElem_mem hk)
      have hm2 : (wCons t)[n % (wCons t).length].2.length * (3 * capV d) ≤ 2 * (3 * capV d) := Nat.mul_le_mul_right _ hfs.1
      obtain ⟨s1, s2, s3⟩ := vtp_facts (P := P) (N := N) (c := 3 * capV d) hF (wCons t)[n % (wCons t).length].2 (a + 1) hfs.2.1 (by omega)
      exact ⟨_, _, hc, .con t _ _ rfl (List.getElem_mem hk) s1 s2, by omega⟩

/-! ### what a pattern takes -/

mutual
def fillV (v0 : Vl) : Pt → Vl
  | .mk f n s _ _ k => if f = 3 then .mk 2 n .empty [] else if f ≠ 4 then v0 else .mk 1 0 s (fillL v0 k)
def fillL (v0 : Vl) : List Pt → List Vl
  | [] => []
  | p :: r => fillV v0 p :: fillL v0 r
end
theorem fillV_eq (v0 : Vl) (p : Pt) : fillV v0 p = if p.f = 3 then .mk 2 p.n .empty [] else if p.f ≠ 4 then v0 else .mk 1 0 p.s (fillL v0 p.k) := by cases p; rw [fillV]; rfl
theorem fillL_map (v0 : Vl) : ∀ l : List Pt, fillL v0 l = l.map (fillV v0)
  | [] => by rw [fillL]; rfl
  | p :: r => by rw [fillL, fillL_map v0 r]; rfl

/-- Of forms that are: 1, 3, 4. -/
inductive Good : Pt → Prop
  | wild (p : Pt) (h : p.f = 1) : Good p
  | int (p : Pt) (h : p.f = 3) : Good p
  | con (p : Pt) (h : p.f = 4) (hk : ∀ x ∈ p.k, Good x) : Good p
theorem takesL_map {f : Pt → Vl} : ∀ {l : List Pt}, (∀ p ∈ l, takes p (f p) = true) → takesL l (l.map f) = true
  | [], _ => by simp [takesL]
  | p :: l, h => by
    rw [List.map_cons, takesL, h p (by simp), takesL_map (fun q hq => h q (by simp [hq]))]; rfl
theorem good_takes {v0 : Vl} {p : Pt} (h : Good p) : takes p (fillV v0 p) = true := by
  induction h with
  | wild p h => exact takes_opn (by simp [Pt.opn, h]) _
  | int p h =>
    rw [fillV_eq, if_pos h, takes_eq]
    simp [h, Vl.f, Vl.n]
  | con p h hk ih =>
    rw [fillV_eq, if_neg (by omega), if_neg (by simp [h]), takes_eq, fillL_map]
    simp [h, Vl.f, Vl.s, Vl.k, takesL_map ih]

theorem miss_good : ∀ (n : Nat) (l : List Rw) (c : Nat) (m : List Pt), miss n l c = some m → ∀ p ∈ m, Good p
  | 0, _, _, _, h => by simp [miss] at h
  | n + 1, l, 0, m, h => by
    cases l with
    | nil => simp [miss] at h; subst h; simp
    | cons r l => simp [miss] at h
  | n + 1, l, c + 1, m, h => by
    unfold miss at h
    split at h
    · obtain ⟨q, _, hq⟩ := List.exists_of_findSome?_eq_some h
      obtain ⟨m', hm, rfl⟩ := Option.map_eq_some_iff.1 hq
      have ih := miss_good n _ _ _ hm
      intro p hp
      rcases List.mem_cons.1 hp with rfl | hp
      · exact .con _ rfl (fun x hx => ih x (List.mem_of_mem_take hx))
      · exact ih p (List.mem_of_mem_drop hp)
    · split at h
      · rename_i m' hm
        injection h with h; subst h
        intro p hp
        rcases List.mem_cons.1 hp with rfl | hp
        · unfold ownOf
          split
          · exact .wild _ rfl
          · exact .int _ rfl
        · exact miss_good n _ _ _ hm p hp
      · obtain ⟨q, _, hq⟩ := List.exists_of_findSome?_eq_some h
        obtain ⟨m', hm, rfl⟩ := Option.map_eq_some_iff.1 hq
        intro p hp
        rcases List.mem_cons.1 hp with rfl | hp
        · exact .int _ rfl
        · exact miss_good n _ _ _ hm p hp

end Go.Proofs.YtefdahofpjmnfaaDoor

namespace Go.Proofs.YtefdahofpjmnfaaDoor
open Go Fp
set_option maxRecDepth 10000
set_option maxHeartbeats 16000000

theorem usl_mem {rows : List Rw} {x : Int} : ∀ {n : Nat}, x ∈ usl rows n → ∃ (k : Nat) (r : Rw), x = k ∧ rows[k]? = some r ∧ fresh 300 (rows.take k) r = false
  | 0, h => by simp [usl] at h
  | n + 1, h => by
    rw [usl, List.mem_append] at h
    rcases h with h | h
    · exact usl_mem h
    · split at h
      · rename_i r hr
        split at h
        · simp at h
        · rename_i hf
          simp at h
          exact ⟨n, r, h, hr, by simpa using hf⟩
      · simp at h

theorem first_not_useless {t : Nat} {ps : List Pt} {v : Vl} (h : PatsOk t ps) (hv : TyV t v) : ∀ x ∈ uslOf ps, x ≠ (first_place ps fun p => takes p v).choose := fun x hx e => by
  have hi := (first_place ps fun p => takes p v).choose_spec.1
  rw [← e] at hi
  obtain ⟨k, r, rfl, hr, hf⟩ := usl_mem hx
  rcases hi with ⟨k', hk', h3, h4, h5⟩ | ⟨hk', _⟩
  · have : k = k' := by omega
    subst this
    have hkl : k < (rowsFrom 0 ps).length := by rw [rowsFrom_len]; exact h3
    have hat := h.at hkl
    have hrr : r = (rowsFrom 0 ps)[k] := by rw [List.getElem?_eq_getElem hkl] at hr; injection hr with hr; exact hr.symm
    rw [hrr] at hf
    have hg := rowsFrom_get ps 0 k
    rw [List.getElem?_eq_getElem hkl, List.getElem?_eq_getElem h3] at hg
    simp only [Option.map_some] at hg
    injection hg with hg
    have htk := fresh_no 300 _ _ [t] hat hf [v] ⟨hv, trivial⟩ (by rw [hg]; simp [takesL, h4])
    rw [rowsFrom_take, tk_rows, List.any_eq_true] at htk
    obtain ⟨p, hp, hpt⟩ := htk
    obtain ⟨j, hj⟩ := List.getElem?_of_mem hp
    have hjl := (List.getElem?_eq_some_iff.1 hj).1
    simp only [List.length_take] at hjl
    have hjp : j < ps.length := by omega
    have := h5 j hjp (by omega)
    rw [List.getElem?_take_of_lt (by omega), List.getElem?_eq_getElem hjp] at hj
    injection hj with hj
    rw [hj, hpt] at this; cases this
  · omega

end Go.Proofs.YtefdahofpjmnfaaDoor

namespace Go.Proofs.YtefdahofpjmnfaaDoor
open Go Fp
set_option maxRecDepth 10000
set_option maxHeartbeats 16000000
set_option linter.unusedVariables false

def eCi (i : Int) : AV := .agg [.lit (.int .i64 3), .lit (.int .i64 i), .lit (.string .empty), .lit (.int .i64 0), .lit (.int .i64 0), .lit (.string .empty), .sl [], .sl [], .sl [], .sl []]
def eCis (l : List Int) : List AV := l.map eCi
theorem uniCi (l : List Int) : Uni 10 (eCis l) := uniMap (f := eCi) (n := 10) (fun _ => rfl) l
theorem lenCi (l : List Int) : (eCis l).length = l.length := by simp [eCis]

def upto (n : Nat) : List Int := (List.range n).map Int.ofNat
theorem upto_len (n : Nat) : (upto n).length = n := by simp [upto]
theorem upto_succ (n : Nat) : upto (n + 1) = upto n ++ [(n : Int)] := by unfold upto; rw [List.range_succ, List.map_append]; rfl
theorem upto_get {n k : Nat} (h : k < n) : (upto n)[k]? = some (k : Int) := by simp [upto, h]

theorem bodies_ok (n : Nat) (hn : n < 10000) : ACall Tryd.prog n_fugueref20_Bodies [.lit (.int .i64 (n : Nat))] (.sl (eCis (upto n))) := by
  refine acall_of_wcx ttok mixed Tryd.func7 rfl (by rfl) (Nat.le_of_ble_eq_true rfl) (by kernel_rfl) ?_
  refine ⟨{k : Nat // k ≤ n}, fun k => { vs := [(0, sv (n : Nat)), (3, .v (.sl (eCis (upto k.1)))), (4, sv (k.1 : Nat))], ow := [(3, 0, 11)] },
    fun k => n - k.1, ⟨0, Nat.zero_le _⟩, ⟨⟨rfl, rfl, rfl, trivial⟩, ⟨trivial, trivial⟩, rfl⟩, ?_⟩
  rintro ⟨k, hk⟩
  refine ⟨fun h => ?_, fun h => ?_⟩
  · have h : k < n := by have h := of_decide_eq_true h; simp only at h; omega
    refine ⟨by rw [lenCi, upto_len]; simp; omega, uniCi _, uniCi [(k : Int)], ?_⟩
    refine ⟨⟨k + 1, h⟩, by simp; omega, ⟨rfl, ?_, svc (wrap_succ (k := k) (by omega)), trivial⟩, ⟨rfl, trivial⟩, rfl⟩
    show SV.v (AV.sl (eCis (upto k) ++ [eCi (k : Int)])) = SV.v (AV.sl (eCis (upto (k + 1))))
    rw [upto_succ]; simp [eCis]
  · have h : k = n := by have h := of_decide_eq_false h; simp only at h; omega
    subst h
    exact rfl

/-- Rows in a block. -/
def rowsPost (L : List AV) (r : AV) (o : Nat) (h : List (Nat × HO)) : Prop :=
  (L = [] ∧ r = .lit (.slice none 0 0) ∧ o = 0 ∧ h = []) ∨ ∃ b cap zs, r = .lit (.slice (some ⟨b, 0, none⟩) L.length cap) ∧ o = 0 ∧ h = [(b, HO.cells (L.flatMap AV.cells ++ zs))] ∧ L.length ≤ cap ∧ zs.length = (cap - L.length) * 12

theorem rowsH_ok (l : List Pt) (hl : l.length < 1000) : CallsG Tryd.prog (fnv n_cover_rows) [] [.sl (ePts l)] [] (rowsPost (eRws 0 (fun _ => 0) (rowsFrom 0 l))) := by
  refine callsG_of_wcx (first := []) (cap := []) ttok mixed Tryd.func25 rfl (by rfl) rfl (Nat.le_of_ble_eq_true rfl) (by kernel_rfl) ?_
  refine ⟨{s : Nat × Option (Nat × Nat × List AV) // s.1 ≤ l.length ∧ match s.2 with | none => s.1 = 0 | some (b, cap, zs) => s.1 ≤ cap ∧ zs.length = (cap - s.1) * 12},
    fun s => { vs := [(3, .v (.lit (match s.1.2 with
      | none => .slice none 0 0
      | some (b, cap, _) => .slice (some ⟨b, 0, none⟩) s.1.1 cap))), (6, .v (.sl (ePts l))), (7, sv ((ePts l).length : Nat)), (8, sv (s.1.1 : Nat))], ow := [], hp := match s.1.2 with
      | none => []
      | some (b, cap, zs) => [(b, HO.cells ((eRws 0 (fun _ => 0) (rowsFrom 0 (l.take s.1.1))).flatMap AV.cells ++ zs))] },
    fun s => l.length - s.1.1, ⟨(0, none), Nat.zero_le _, rfl⟩, ⟨⟨.inl rfl, rfl, rfl, rfl, trivial⟩, trivial, rfl⟩, ?_⟩
  rintro ⟨⟨k, blk⟩, hk, hb⟩
  have hlen : (rowsFrom 0 (l.take k)).length = k := by rw [rowsFrom_len, List.length_take]; simp only at hk; omega
  cases blk with
  | none =>
    simp only at hb
    subst hb
    refine ⟨fun h => ?_, fun h => ?_⟩
    · have h : 0 < l.length := by have h := of_decide_eq_true h; rw [lenP] at h; simp only at h; omega
      refine ⟨_, by omega, getP h, rfl, ?_⟩
      refine ⟨rfl, by simp, by simp, uniMap (f := eRw 0 (fun _ => 0)) (fun _ => rfl) [⟨[l[0]], [], 0⟩], rfl, rfl, fun b' cap' zs h1 h2 => ?_⟩
      refine ⟨⟨(1, some (b', cap', zs)), h, h1, h2⟩, by simp; omega, ⟨rfl, rfl, rfl, rfl, trivial⟩, trivial, ?_⟩
      show [(b', HO.cells ([eRw 0 (fun _ => 0) ⟨[l[0]], [], 0⟩].flatMap AV.cells ++ zs))] = [(b', HO.cells ((eRws 0 (fun _ => 0) (rowsFrom 0 (l.take 1))).flatMap AV.cells ++ zs))]
      rw [List.take_succ_eq_append_getElem h]; rfl
    · have h : l = [] := by have h := of_decide_eq_false h; rw [lenP] at h; simp only at h; exact List.length_eq_zero_iff.1 (by omega)
      subst h
      exact .inl ⟨rfl, rfl, rfl, rfl⟩
  | some x =>
    obtain ⟨b, cap, zs⟩ := x
    obtain ⟨hb1, hb2⟩ := hb
    simp only at hk hb1 hb2
    refine ⟨fun h => ?_, fun h => ?_⟩
    · have h : k < l.length := by have h := of_decide_eq_true h; rw [lenP] at h; simp only at h; omega
      refine ⟨_, by omega, getP h, rfl, ?_⟩
      have hfl : ((eRws 0 (fun _ => 0) (rowsFrom 0 (l.take k))).flatMap AV.cells).length = k * 12 := by
        rw [flatMap_len (uniRw _ _ _), lenRw, hlen]
      refine ⟨rfl, by simp, by simp; omega, uniMap (f := eRw 0 (fun _ => 0)) (fun _ => rfl) [⟨[l[k]], [], k⟩], 0, _, rfl, hb1, by rw [List.length_append, hfl, hb2]; rw [← Nat.add_mul]; congr 1; omega, fun b' cap' zs' h1 h2 => ?_⟩
      refine ⟨⟨(k + 1, some (b', cap', zs')), h, h1, h2⟩, by simp; omega, ⟨rfl, rfl, rfl, svc (wrap_succ (k := k) (by omega)), trivial⟩, trivial, ?_⟩
      show [(b', HO.cells (List.take (k * 12) ((eRws 0 (fun _ => 0) (rowsFrom 0 (l.take k))).flatMap AV.cells ++ zs) ++ ([eRw 0 (fun _ => 0) ⟨[l[k]], [], k⟩].flatMap AV.cells ++ zs')))] = [(b', HO.cells ((eRws 0 (fun _ => 0) (rowsFrom 0 (l.take (k + 1)))).flatMap AV.cells ++ zs'))]
      rw [List.take_append_of_le_length (by omega), List.take_of_length_le (by omega), List.take_succ_eq_append_getElem h, rowsFrom_snoc, show 0 + (l.take k).length = k by simp; omega]
      unfold eRws
      rw [List.map_append, List.flatMap_append, List.append_assoc]; rfl
    · have h : k = l.length := by have h := of_decide_eq_false h; rw [lenP] at h; simp only at h; omega
      subst h
      rw [List.take_length] at hlen
      have hfin : rowsPost (eRws 0 (fun _ => 0) (rowsFrom 0 l)) (.lit (.slice (some ⟨b, 0, none⟩) l.length cap)) 0 [(b, HO.cells ((eRws 0 (fun _ => 0) (rowsFrom 0 (l.take l.length))).flatMap AV.cells ++ zs))] :=
        .inr ⟨b, cap, zs, by rw [lenRw, hlen], rfl, by rw [List.take_length], by rw [lenRw, hlen]; exact hb1, by rw [lenRw, hlen]; exact hb2⟩
      exact hfin
end Go.Proofs.YtefdahofpjmnfaaDoor

namespace Go.Proofs.YtefdahofpjmnfaaDoor
open Go Fp
set_option maxRecDepth 10000
set_option maxHeartbeats 16000000
set_option linter.unusedVariables false

theorem grow62_ok (n : Nat) (hn : n ≤ 100000) : CallsG Tryd.prog (fnv 62) [] [.nil, .lit (.int .i64 (n : Nat))] [] fun r o h => r = .sl [] ∧ o = 2 ∧ h = [] := by
  have w0 : IntKind.i64.wrap ((n : Int) - IntKind.i64.wrap (0 - (([] : List AV).length : Nat))) = (n : Int) := by
    rw [show IntKind.i64.wrap (0 - (([] : List AV).length : Nat)) = 0 from rfl, Int.sub_zero]; exact wrap_nat (by omega)
  refine CallsG.opened (esz := 1) (callsG_of_wcxN (os := [2]) ttok mixed Tryd.func62 rfl (by rfl) (fun i sz h => ?_) (Nat.le_of_ble_eq_true rfl) (by kernel_rfl) (post := growPost 1) ?_) (fun r o h hp => hp)
  · match i with
    | 0 => rfl
    | i + 1 => simp at h
  refine ⟨fun h => ?_, fun _ => ?_⟩
  · have h := of_decide_eq_true h; omega
  refine ⟨fun h => ?_, fun h => ?_⟩
  · have h := of_decide_eq_true h
    rw [w0] at h
    refine .inl ⟨rfl, rfl, ?_⟩
    refine ⟨n, w0, by omega, by omega, fun b cap zs h1 h2 => ?_⟩
    refine ⟨by decide, by decide, by exact_mod_cast Nat.zero_le _, ?_⟩
    refine .inr ⟨rfl, b, cap, zs, ?_, rfl, by omega⟩
    have e : ∀ A B : Option Addr, A = some ⟨b, 0, none⟩ → B = some ⟨b, 0, none⟩ → AV.lit (.slice (if cap = 0 then A else B) 0 cap) = .lit (.slice (some ⟨b, 0, none⟩) 0 cap) := fun A B hA hB => by rw [hA, hB]; split <;> rfl
    exact e _ _ rfl rfl
  · exact .inl ⟨rfl, rfl, rfl⟩

theorem concat33_ok (ls : List (List AV)) (hn : ls.length < 10000) (hu : ∀ l ∈ ls, Uni 1 l) (ht : ls.flatten.length ≤ 100000) : ACall Tryd.prog 33 [.sl (ls.map AV.sl)] (.sl ls.flatten) := by
  refine acall_of_wcx ttok mixed Tryd.func33 rfl (by rfl) (Nat.le_of_ble_eq_true rfl) (by kernel_rfl) ?_
  have hml : (ls.map AV.sl).length = ls.length := by simp
  refine ⟨{k : Nat // k ≤ ls.length}, fun k => { vs := [(0, .v (.sl (ls.map AV.sl))), (3, sv ((ls.take k.1).flatten.length : Nat)), (9, .v (.sl (ls.map AV.sl))), (10, sv (ls.length : Nat)), (11, sv (k.1 : Nat))] },
    fun k => ls.length - k.1, ⟨0, Nat.zero_le _⟩, ⟨⟨rfl, rfl, rfl, svc (by rw [hml]), rfl, trivial⟩, trivial, rfl⟩, ?_⟩
  rintro ⟨k, hk⟩
  refine ⟨fun h => ?_, fun h => ?_⟩
  · have h : k < ls.length := by have h := of_decide_eq_true h; simp only at h; omega
    have hfl := flat_take h
    have hle := flat_le ls (k + 1)
    refine ⟨.sl ls[k], by omega, getM (f := AV.sl) h, rfl, ?_⟩
    have w1 : IntKind.i64.wrap (((ls.take k).flatten.length : Nat) + (ls[k].length : Nat)) = ((ls.take (k + 1)).flatten.length : Nat) := by
      rw [hfl, List.length_append, ← Int.natCast_add]; exact wrap_nat (by rw [hfl, List.length_append] at hle; omega)
    refine ⟨fun h2 => ?_, fun _ => ?_⟩
    · have h2 := of_decide_eq_true h2
      simp only [w1] at h2; omega
    exact ⟨⟨k + 1, h⟩, by simp; omega, ⟨rfl, svc w1, rfl, rfl, svc (wrap_succ (k := k) (by omega)), trivial⟩, trivial, rfl⟩
  · have h : k = ls.length := by have h := of_decide_eq_false h; simp only at h; omega
    subst h
    have hg := grow62_ok ls.flatten.length ht
    rw [show ls.flatten.length = (ls.take ls.length).flatten.length by rw [List.take_length]] at hg
    refine .inr (.inr (.inr (.inr (.inr (.inl ⟨[], [], [], _, rfl, List.nodup_nil, rfl, hg, ?_⟩)))))
    rintro r w hout ⟨rfl, rfl, rfl⟩
    refine ⟨{k : Nat // k ≤ ls.length}, fun k => { vs := [(6, .v (.sl (ls.take k.1).flatten)), (25, .v (.sl (ls.map AV.sl))), (26, sv (ls.length : Nat)), (27, sv (k.1 : Nat))], ow := [(6, 0, 2)] },
      fun k => ls.length - k.1, ⟨0, Nat.zero_le _⟩, ⟨⟨rfl, rfl, svc (by rw [hml]), rfl, trivial⟩, ⟨rfl, trivial⟩, rfl⟩, ?_⟩
    rintro ⟨k, hk⟩
    refine ⟨fun h => ?_, fun h => ?_⟩
    · have h : k < ls.length := by have h := of_decide_eq_true h; simp only at h; omega
      have hfl := flat_take h
      have hle := flat_le ls (k + 1)
      refine ⟨.sl ls[k], by omega, getM (f := AV.sl) h, rfl, ?_⟩
      refine ⟨by rw [hfl, List.length_append] at hle; simp only; omega, flat_uni hu k, hu _ (List.getElem_mem h), ?_⟩
      refine ⟨⟨k + 1, h⟩, by simp; omega, ⟨?_, rfl, rfl, svc (wrap_succ (k := k) (by omega)), trivial⟩, ⟨rfl, trivial⟩, rfl⟩
      show _ = SV.v (AV.sl (ls.take (k + 1)).flatten)
      rw [hfl]; rfl
    · have h : k = ls.length := by have h := of_decide_eq_false h; simp only at h; omega
      subst h
      show AV.sl (ls.take ls.length).flatten = _
      rw [List.take_length]

/-- A digit as text. -/
def dig (i : Nat) : ByteArray := ⟨#[(48 + i).toUInt8]⟩
theorem small_ok (i : Nat) (hi : i < 3) : ACall Tryd.prog n_internal_strconv_small [.lit (.int .i64 (i : Nat))] (.lit (.string (dig i))) := by
  refine acall_of_wcx ttok mixed Tryd.func102 rfl (by rfl) (Nat.le_of_ble_eq_true rfl) (by kernel_rfl) ?_
  match i, hi with
  | 0, _ => exact ⟨fun _ => ⟨by decide, by decide, by decide, rfl⟩, fun h => absurd h (by decide)⟩
  | 1, _ => exact ⟨fun _ => ⟨by decide, by decide, by decide, rfl⟩, fun h => absurd h (by decide)⟩
  | 2, _ => exact ⟨fun _ => ⟨by decide, by decide, by decide, rfl⟩, fun h => absurd h (by decide)⟩
theorem format_ok (i : Nat) (hi : i < 3) : ACall Tryd.prog n_internal_strconv_FormatInt [.lit (.int .i64 (i : Nat)), .lit (.int .i64 10)] (.lit (.string (dig i))) := by
  have hs := small_ok i hi
  refine acall_of_wcx ttok mixed Tryd.func93 rfl (by rfl) (Nat.le_of_ble_eq_true rfl) (by kernel_rfl) ?_
  refine ⟨fun _ => ?_, fun h => absurd h (by decide)⟩
  refine ⟨fun _ => ?_, fun h => absurd (of_decide_eq_false h) (by omega)⟩
  refine ⟨fun _ => ?_, fun h => absurd (of_decide_eq_false h) (by omega)⟩
  exact .inl ⟨_, hs, rfl⟩
theorem itoa1_ok (i : Nat) (hi : i < 3) : ACall Tryd.prog n_internal_strconv_Itoa [.lit (.int .i64 (i : Nat))] (.lit (.string (dig i))) := by
  refine acall_of_wcx ttok mixed Tryd.func64 rfl (by rfl) (Nat.le_of_ble_eq_true rfl) (by kernel_rfl) ?_
  exact .inl ⟨_, format_ok i hi, rfl⟩
theorem itoa_ok (i : Nat) (hi : i < 3) : ACall Tryd.prog n_strconv_Itoa [.lit (.int .i64 (i : Nat))] (.lit (.string (dig i))) := by
  refine acall_of_wcx ttok mixed Tryd.func35 rfl (by rfl) (Nat.le_of_ble_eq_true rfl) (by kernel_rfl) ?_
  exact .inl ⟨_, itoa1_ok i hi, rfl⟩

/-- Names, with others in the place of one. -/
def putN (ns : List ByteArray) (a : Nat) (own : List ByteArray) : List ByteArray := ns.take a ++ (own ++ ns.drop (a + 1))
theorem with_ok (ns own : List ByteArray) (a : Nat) (ha : a < ns.length) (hn : ns.length < 10000) (ho : own.length < 10000) :
    ACall Tryd.prog n_cover_Compile_1_2 [.sl (eSs own), .ptr [.sl (eSs ns)], .ptr [.lit (.int .i64 (a : Nat))]] (.sl (eSs (putN ns a own))) := by
  have hls : (eSs ns).length = ns.length := by simp [eSs]
  have e1 : ([eSs (ns.take a), eSs own, eSs (ns.drop (a + 1))] : List (List AV)).flatten = eSs (putN ns a own) := by simp [eSs, putN]
  have hc := concat33_ok [eSs (ns.take a), eSs own, eSs (ns.drop (a + 1))] (by simp) (fun l hl => by simp at hl; rcases hl with rfl | rfl | rfl <;> exact uniS _) (by rw [e1]; simp [eSs, putN]; omega)
  rw [e1] at hc
  have t1 : List.drop (Int.toNat 0) (List.take (Int.toNat (a : Int)) (eSs ns)) = eSs (ns.take a) := by simp [eSs]
  have t2 : List.drop (Int.toNat ((a + 1 : Nat) : Int)) (List.take (Int.toNat ((eSs ns).length : Nat)) (eSs ns)) = eSs (ns.drop (a + 1)) := by
    rw [Int.toNat_natCast, Int.toNat_natCast, List.take_length]; simp [eSs]
  have hw : IntKind.i64.wrap ((a : Int) + 1) = ((a + 1 : Nat) : Int) := wrap_succ (k := a) (by omega)
  have hc' : ACall Tryd.prog n_slices_Concat_stringstring [.sl [.sl (List.drop (Int.toNat 0) (List.take (Int.toNat (a : Int)) (eSs ns))), .sl (eSs own), .sl (List.drop (Int.toNat (IntKind.i64.wrap ((a : Int) + 1))) (List.take (Int.toNat ((eSs ns).length : Nat)) (eSs ns)))]] (.sl (eSs (putN ns a own))) := by
    rw [t1, hw, t2]; exact hc
  refine acall_of_wcx ttok mixed Tryd.func32 rfl (by rfl) (Nat.le_of_ble_eq_true rfl) (by kernel_rfl) ?_
  refine ⟨by decide, by omega, by rw [hls]; omega, rfl, .inl rfl, ?_⟩
  refine ⟨by rw [hw]; omega, by rw [hw, hls]; omega, by omega, .inr (uniS _), ?_⟩
  refine .inl ⟨_, hc', ?_⟩
  exact ⟨by kernel_rfl, rfl⟩
end Go.Proofs.YtefdahofpjmnfaaDoor

namespace Go.Proofs.YtefdahofpjmnfaaDoor
open Go Fp
set_option maxRecDepth 10000
set_option maxHeartbeats 16000000
set_option linter.unusedVariables false

theorem notOpen_ok (p : Pt) : ACall Tryd.prog n_cover_Compile_1_1 [ePt p] (.sb (!p.opn)) := by
  refine acall_of_wcx ttok mixed Tryd.func28 rfl (by rfl) (Nat.le_of_ble_eq_true rfl) (by kernel_rfl) ?_
  exact .inl ⟨_, open_ok p, rfl⟩

/-- The first place that is not open, or -1. -/
def ShutAt (l : List Pt) (i : Int) : Prop := (∃ k : Nat, i = k ∧ ∃ h : k < l.length, l[k].opn = false ∧ ∀ j (hj : j < l.length), j < k → l[j].opn = true) ∨ (i = -1 ∧ ∀ x ∈ l, x.opn = true)
theorem shutAt_ex (l : List Pt) : ∃ i, ShutAt l i := by
  obtain ⟨i, h, _⟩ := first_place l (fun p => !p.opn)
  refine ⟨i, ?_⟩
  rcases h with ⟨k, rfl, h, h1, h2⟩ | ⟨rfl, h1⟩
  · exact .inl ⟨k, rfl, h, by simpa using h1, fun j hj hjk => by simpa using h2 j hj hjk⟩
  · exact .inr ⟨rfl, fun x hx => by simpa using h1 x hx⟩

theorem indexShut_ok (l : List Pt) (i : Int) (hl : l.length < 10000) (hi : ShutAt l i) : ACall Tryd.prog n_slices_IndexFunc_apiPatapiPat [.sl (ePts l), .lit (fnv n_cover_Compile_1_1)] (.lit (.int .i64 i)) := by
  refine acall_of_wcx ttok mixed Tryd.func27 rfl (by rfl) (Nat.le_of_ble_eq_true rfl) (by kernel_rfl) ?_
  refine ⟨{k : Nat // k ≤ l.length ∧ ∀ j (hj : j < l.length), j < k → l[j].opn = true}, fun k => { vs := [(0, .v (.sl (ePts l))), (1, .v (.lit (fnv n_cover_Compile_1_1))), (6, .v (.sl (ePts l))), (7, sv (l.length : Nat)), (8, sv (k.1 : Nat))] },
    fun k => l.length - k.1, ⟨0, Nat.zero_le _, fun j hj h => by omega⟩, ⟨⟨rfl, rfl, rfl, svc (by rw [lenP]), rfl, trivial⟩, trivial, rfl⟩, ?_⟩
  rintro ⟨k, hk, hinv⟩
  refine ⟨fun h => ?_, fun h => ?_⟩
  · have h : k < l.length := by have h := of_decide_eq_true h; simp only at h; omega
    have hc := notOpen_ok l[k]
    refine ⟨_, by omega, getP h, rfl, ?_⟩
    refine .inl ⟨_, hc, ?_⟩
    refine ⟨fun h2 => ?_, fun h2 => ?_⟩
    · have hi' : i = k := by
        rcases hi with ⟨k', rfl, h3, h4, h5⟩ | ⟨_, h3⟩
        · rcases Nat.lt_trichotomy k k' with q | q | q
          · have := h5 k h q; rw [this] at h2; cases h2
          · rw [q]
          · have := hinv k' h3 q; rw [h4] at this; cases this
        · have := h3 _ (List.getElem_mem h); rw [this] at h2; cases h2
      subst hi'
      exact rfl
    · refine ⟨⟨k + 1, h, fun j hjl hj => ?_⟩, by simp; omega, ⟨rfl, rfl, rfl, rfl, svc (wrap_succ (k := k) (by omega)), trivial⟩, trivial, rfl⟩
      rcases Nat.lt_or_ge j k with hlt | hge
      · exact hinv j hjl hlt
      · have : j = k := by omega
        subst this; simpa using h2
  · have h : k = l.length := by have h := of_decide_eq_false h; simp only at h; omega
    have hi' : i = -1 := by
      rcases hi with ⟨k', rfl, h3, h4, h5⟩ | ⟨h3, _⟩
      · have := hinv k' h3 (by omega); rw [h4] at this; cases this
      · exact h3
    subst hi'
    exact rfl
end Go.Proofs.YtefdahofpjmnfaaDoor
