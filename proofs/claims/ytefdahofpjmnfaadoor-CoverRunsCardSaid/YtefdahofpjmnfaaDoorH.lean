/- Compiled cases, as a tree; copies of lists of names that are given; rows of any column. No condition. -/
import Derived.Test.YtefdahofpjmnfaaDoorF
import Derived.Test.YtefdahofpjmnfaaDoorFpI
set_option linter.unusedSimpArgs false
set_option linter.unusedVariables false
namespace Go.Proofs.YtefdahofpjmnfaaDoor
open Go Fp
set_option maxRecDepth 10000
set_option maxHeartbeats 16000000
set_option linter.unusedVariables false

abbrev Bd := ByteArray × Tp × ByteArray
abbrev Hd := Int × Int × ByteArray × List ByteArray
/-- Compiled cases: a failure, a body in a let of names, a case. -/
inductive Cr where
  | fail
  | leaf (bs : List Bd) (n : Int)
  | cas (v : ByteArray) (hs : List Hd) (ks : List Cr)

def eVar (s : ByteArray) : AV := .agg [.lit (.int .i64 1), .lit (.int .i64 0), .lit (.string s), .lit (.int .i64 0), .lit (.int .i64 0), .lit (.string .empty), .sl [], .sl [], .sl [], .sl []]
namespace Cr
def f : Cr → Int | fail => 11 | leaf [] _ => 3 | leaf _ _ => 8 | cas _ _ _ => 9
def n : Cr → Int | leaf [] n => n | _ => 0
def t (to : Tp) : Cr → Tp | fail => to | leaf _ _ => .no | cas _ _ _ => to
def kids : Cr → List AV | leaf [] _ => [] | leaf _ n => [eCi n] | cas v _ _ => [eVar v] | fail => []
def binds : Cr → List AV | leaf bs _ => eLs bs | _ => []
mutual
def alts (to : Tp) : Cr → List AV
  | cas _ hs ks => altsL to hs ks
  | _ => []
def altsL (to : Tp) : List Hd → List Cr → List AV
  | h :: hs, k :: ks => .agg [.lit (.int .i64 h.1), .lit (.int .i64 h.2.1), .lit (.string h.2.2.1), .sl (eSs h.2.2.2), .lit (.int .i64 k.f), .lit (.int .i64 k.n), .lit (.string .empty), .lit (.int .i64 (k.t to).form), .lit (.int .i64 (k.t to).num), .lit (.string (k.t to).nam), .sl (k.t to).eArgs, .sl k.kids, .sl k.binds, .sl (k.alts to)] :: altsL to hs ks
  | _, _ => []
end
end Cr
def eCr (to : Tp) (k : Cr) : AV := .agg [.lit (.int .i64 k.f), .lit (.int .i64 k.n), .lit (.string .empty), .lit (.int .i64 (k.t to).form), .lit (.int .i64 (k.t to).num), .lit (.string (k.t to).nam), .sl (k.t to).eArgs, .sl k.kids, .sl k.binds, .sl (k.alts to)]
def eAlt (to : Tp) (h : Hd) (k : Cr) : AV := .agg [.lit (.int .i64 h.1), .lit (.int .i64 h.2.1), .lit (.string h.2.2.1), .sl (eSs h.2.2.2), .lit (.int .i64 k.f), .lit (.int .i64 k.n), .lit (.string .empty), .lit (.int .i64 (k.t to).form), .lit (.int .i64 (k.t to).num), .lit (.string (k.t to).nam), .sl (k.t to).eArgs, .sl k.kids, .sl k.binds, .sl (k.alts to)]
theorem altsL_cons (to : Tp) (h : Hd) (hs : List Hd) (k : Cr) (ks : List Cr) : Cr.altsL to (h :: hs) (k :: ks) = eAlt to h k :: Cr.altsL to hs ks := by rw [Cr.altsL]; rfl
theorem altsL_nil (to : Tp) : Cr.altsL to [] [] = [] := by rw [Cr.altsL]; intros; simp_all
theorem alts_cas (to : Tp) (v : ByteArray) (hs : List Hd) (ks : List Cr) : (Cr.cas v hs ks).alts to = Cr.altsL to hs ks := by rw [Cr.alts]
theorem altsL_map (to : Tp) {α : Type} (f : α → Hd) (g : α → Cr) : ∀ l : List α, Cr.altsL to (l.map f) (l.map g) = l.map fun x => eAlt to (f x) (g x)
  | [] => altsL_nil to
  | x :: l => by rw [List.map_cons, List.map_cons, altsL_cons, altsL_map to f g l]; rfl
theorem altsL_app (to : Tp) : ∀ (h1 h2 : List Hd) (k1 k2 : List Cr), h1.length = k1.length → Cr.altsL to (h1 ++ h2) (k1 ++ k2) = Cr.altsL to h1 k1 ++ Cr.altsL to h2 k2
  | [], h2, [], k2, _ => by rw [altsL_nil]; rfl
  | h :: h1, h2, k :: k1, k2, hl => by rw [List.cons_append, List.cons_append, altsL_cons, altsL_cons, altsL_app to h1 h2 k1 k2 (by simpa using hl)]; rfl
  | [], _, _ :: _, _, hl => by simp at hl
  | _ :: _, _, [], _, hl => by simp at hl

/-- The names of a constructor's fields. -/
def kidN (v : ByteArray) (i : Nat) : ByteArray := v ++ ⟨#[64]⟩ ++ dig i
def kidsN (v : ByteArray) (n : Nat) : List ByteArray := (List.range n).map (kidN v)
/-- The names that a row's own patterns give. -/
def ownB (ps : List Pt) (ns : List ByteArray) : List Bd := (ps.zip ns).filterMap fun q => if q.1.f = 2 then some (q.1.s, q.1.t, q.2) else none
def shutIx (ps : List Pt) : Option Nat := ps.findIdx? fun p => !p.opn

def made (b : Nat → Int) : Nat → List Rw → List ByteArray → Cr
  | 0, _, _ => .fail
  | _ + 1, [], _ => .fail
  | n + 1, r :: l, ns => match shutIx r.ps with
    | none => .leaf (r.lost ++ ownB r.ps ns) (b r.body)
    | some a => match r.ps[a]?, ns[a]? with
      | some p, some v => if p.f = 4 then match colCons a (r :: l) with
          | some cs => .cas v (cs.map fun q => (1, 0, q.1, kidsN v q.2.length)) (cs.map fun q => made b n (parts (.con q.1 q.2.length) a v (r :: l)) (putN ns a (kidsN v q.2.length)))
          | none => .cas v [] []
        else .cas v ((intsOf a (r :: l)).map (fun x => (2, x, .empty, [])) ++ [(3, 0, .empty, [])])
          ((intsOf a (r :: l)).map (fun x => made b n (parts (.int x) a v (r :: l)) (putN ns a [])) ++ [made b n (parts .none a v (r :: l)) (putN ns a [])])
      | _, _ => .fail

theorem shutIx_none {ps : List Pt} (h : ∀ x ∈ ps, x.opn = true) : shutIx ps = none := by
  unfold shutIx; rw [List.findIdx?_eq_none_iff]; intro x hx; simp [h x hx]
theorem shutIx_some {ps : List Pt} {k : Nat} (h : k < ps.length) (h1 : ps[k].opn = false) (h2 : ∀ j (hj : j < ps.length), j < k → ps[j].opn = true) : shutIx ps = some k := by
  unfold shutIx; rw [List.findIdx?_eq_some_iff_getElem]
  exact ⟨h, by simp [h1], fun j hj => by simp [h2 j (by omega) hj]⟩

/-! ### Rows of any column -/
theorem RowsTy.conA {cs fs : List Nat} {a t n : Nat} {l : List Rw} {s y : ByteArray} (h : RowsTy cs (n + 1) l) (ha : cs[a]? = some t) (hs : (s, fs) ∈ wCons t) (h4 : ∃ r ∈ l, ∃ p, r.ps[a]? = some p ∧ p.f = 4) : RowsTy (cs.take a ++ fs ++ cs.drop (a + 1)) n (parts (.con s fs.length) a y l) := by
  have hw := (parts_wt (.con s fs.length) a y l).2 h4
  have hf := wCons_fs hs
  have := h.fuel
  have := parts_le (.con s fs.length) a y l
  have := h.len
  have := h.cap
  have hal := (List.getElem?_eq_some_iff.1 ha).1
  refine ⟨fun r hr => parts_ty h.row ha (.con t s fs hs) r hr, fun u hu => ?_, by omega, by simp at *; omega, by omega⟩
  rcases List.mem_append.1 hu with hu | hu
  · rcases List.mem_append.1 hu with hu | hu
    · exact h.col u (List.mem_of_mem_take hu)
    · exact hf.2.1 u hu
  · exact h.col u (List.mem_of_mem_drop hu)
theorem RowsTy.lessA {cs : List Nat} {a t n : Nat} {K : Kn} {l : List Rw} {y : ByteArray} (h : RowsTy cs (n + 1) l) (ha : cs[a]? = some t) (hK : Fit t K []) : RowsTy (cs.take a ++ [] ++ cs.drop (a + 1)) n (parts K a y l) := by
  have hw := (parts_wt K a y l).1
  have := h.fuel
  have := parts_le K a y l
  have := h.len
  have := h.cap
  have hal := (List.getElem?_eq_some_iff.1 ha).1
  refine ⟨fun r hr => parts_ty h.row ha hK r hr, fun u hu => ?_, by omega, by simp at *; omega, by omega⟩
  rw [List.append_nil] at hu
  rcases List.mem_append.1 hu with hu | hu
  · exact h.col u (List.mem_of_mem_take hu)
  · exact h.col u (List.mem_of_mem_drop hu)

theorem clone_ok (l : List Bd) (hl : l.length < 20000) : ACall Tryd.prog n_slices_Clone_apiCBindapiCBind [.sl (eLs l)] (.sl (eLs l)) := by
  cases l with
  | nil =>
    refine acall_of_wcx ttok mixed Tryd.func30 rfl (by rfl) (Nat.le_of_ble_eq_true rfl) (by kernel_rfl) ?_
    refine ⟨rfl, ?_⟩
    exact ⟨by decide, fun a ha => by simp at ha, uniL [], rfl⟩
  | cons q l =>
    refine acall_of_wcx ttok mixed Tryd.func30 rfl (by rfl) (Nat.le_of_ble_eq_true rfl) (by kernel_rfl) ?_
    exact ⟨by simp [eLs] at hl ⊢; omega, fun a ha => by simp at ha, uniL (q :: l), rfl⟩
end Go.Proofs.YtefdahofpjmnfaaDoor

namespace Go.Proofs.YtefdahofpjmnfaaDoor
open Go Fp
set_option maxRecDepth 10000
set_option maxHeartbeats 16000000
set_option linter.unusedVariables false

abbrev ptrV (b : Nat) : Value := .pointer (some ⟨b, 0, none⟩)
abbrev fvM (b1 b2 b3 : Nat) : Value := .func (.func n_cover_Compile_1) #[] #[ptrV b1, ptrV b2, ptrV b3]
abbrev hpM (to : Tp) (b1 b2 b3 : Nat) : List (Nat × HO) := [(b1, HO.cells (eTy to).cells), (b2, HO.cells [cAV]), (b3, HO.cells [.lit (fvM b1 b2 b3)])]
def MadeOk (to : Tp) (b : Nat → Int) (b1 b2 b3 : Nat) (n : Nat) (l : List Rw) (ns : List ByteArray) : Prop :=
  CallsG Tryd.prog (fvM b1 b2 b3) (hpM to b1 b2 b3) [.sl (eRws 3 b l), .sl (eSs ns)] [] fun r o h => r = eCr to (made b n l ns) ∧ o = 0 ∧ h = hpM to b1 b2 b3

theorem made_fail (to : Tp) (b : Nat → Int) (b1 b2 b3 : Nat) (n : Nat) (ns : List ByteArray) : MadeOk to b b1 b2 b3 (n + 1) [] ns := by
  unfold MadeOk
  refine callsG_of_wcx (first := []) (cap := [ptrV b1, ptrV b2, ptrV b3]) ttok mixed Tryd.func26 rfl (by rfl) rfl (Nat.le_of_ble_eq_true rfl) (by kernel_rfl) ?_
  refine ⟨fun _ => ?_, fun h => by cases h⟩
  exact ⟨0, _, rfl, Nat.le_refl 4, rfl, rfl, rfl⟩

theorem cloneG_ok (l : List Bd) (hl : l.length < 20000) : CallsG Tryd.prog (fnv n_slices_Clone_apiCBindapiCBind) [] [.sl (eLs l)] [] fun r o h => r = .sl (eLs l) ∧ o = 16 ∧ h = [] := by
  cases l with
  | nil =>
    refine callsF_of_wcx ttok mixed Tryd.func30 rfl (by rfl) (Nat.le_of_ble_eq_true rfl) (by kernel_rfl) ?_
    refine ⟨?_, ?_⟩
    · exact .inl ⟨rfl, rfl, rfl⟩
    exact ⟨by decide, fun a ha => by simp at ha, uniL [], .inr ⟨rfl, rfl, rfl⟩⟩
  | cons q l =>
    refine callsF_of_wcx ttok mixed Tryd.func30 rfl (by rfl) (Nat.le_of_ble_eq_true rfl) (by kernel_rfl) ?_
    exact ⟨by simp [eLs] at hl ⊢; omega, fun a ha => by simp at ha, uniL (q :: l), .inr ⟨rfl, rfl, rfl⟩⟩

theorem zip_snoc {α β : Type} {p : α} {s : β} : ∀ {ps : List α} {ns : List β}, ns[ps.length]? = some s → (ps ++ [p]).zip ns = ps.zip ns ++ [(p, s)]
  | [], [], h => by simp at h
  | [], x :: ns, h => by simp at h; subst h; simp
  | q :: ps, [], h => by simp at h
  | q :: ps, x :: ns, h => by simp only [List.cons_append, List.zip_cons_cons]; rw [zip_snoc (by simpa using h)]
theorem ownB_snoc (ps : List Pt) (p : Pt) (ns : List ByteArray) (s : ByteArray) (h : ns[ps.length]? = some s) : ownB (ps ++ [p]) ns = ownB ps ns ++ if p.f = 2 then [(p.s, p.t, s)] else [] := by
  unfold ownB
  rw [zip_snoc h, List.filterMap_append]
  congr 1
  by_cases hp : p.f = 2 <;> simp [hp]
theorem ownB_len (ps : List Pt) (ns : List ByteArray) : (ownB ps ns).length ≤ ps.length := by
  unfold ownB
  have := List.length_filterMap_le (fun q : Pt × ByteArray => if q.1.f = 2 then some (q.1.s, q.1.t, q.2) else none) (ps.zip ns)
  have h2 : (ps.zip ns).length ≤ ps.length := by rw [List.length_zip]; omega
  omega

abbrev zC : AV := .agg [.lit (.int .i64 0), .lit (.int .i64 0), .lit (.string .empty), .lit (.int .i64 0), .lit (.int .i64 0), .lit (.string .empty), .sl [], .sl [], .sl [], .sl []]
theorem made_leaf (to : Tp) (b : Nat → Int) (b1 b2 b3 : Nat) (n : Nat) (r : Rw) (l : List Rw) (ns : List ByteArray) (ho : ∀ x ∈ r.ps, x.opn = true) (hn : ns.length = r.ps.length) (hl : r.ps.length < 10000) (hb : r.lost.length < 10000) : MadeOk to b b1 b2 b3 (n + 1) (r :: l) ns := by
  have hI := indexShut_ok r.ps (-1) hl (.inr ⟨rfl, ho⟩)
  have hC := cloneG_ok r.lost (by omega)
  unfold MadeOk
  refine callsG_of_wcx (first := []) (cap := [ptrV b1, ptrV b2, ptrV b3]) ttok mixed Tryd.func26 rfl (by rfl) rfl (Nat.le_of_ble_eq_true rfl) (by kernel_rfl) ?_
  refine ⟨fun h => ?_, fun _ => ?_⟩
  · have h := of_decide_eq_true h; rw [lenRw] at h; simp at h; omega
  refine ⟨_, by omega, getRw (l := r :: l) (k := 0) (by simp), rfl, ?_⟩
  refine .inl ⟨_, hI, ?_⟩
  refine ⟨fun _ => ?_, fun h => absurd h (by decide)⟩
  refine .inr (.inr (.inr (.inr (.inr (.inl ⟨[], [], [], _, rfl, List.nodup_nil, rfl, hC, ?_⟩)))))
  rintro r' w hout ⟨rfl, rfl, rfl⟩
  refine ⟨{k : Nat // k ≤ r.ps.length}, fun k => { vs := [(6, .box 0 (.sl (eSs ns))), (7, .box 0 zC), (8, .box 0 (eRw 3 b r)), (10, .v (.sl (eLs (r.lost ++ ownB (r.ps.take k.1) ns)))), (40, .v (.sl (ePts r.ps))), (41, sv (r.ps.length : Nat)), (42, sv (k.1 : Nat))], ow := [(10, 0, 16)], hp := hpM to b1 b2 b3 },
    fun k => r.ps.length - k.1, ⟨0, Nat.zero_le _⟩, ⟨⟨rfl, rfl, rfl, ?_, rfl, svc (by rw [lenP]; rfl), rfl, trivial⟩, ⟨rfl, trivial⟩, rfl⟩, ?_⟩
  · show SV.v (AV.sl (eLs r.lost)) = SV.v (AV.sl (eLs (r.lost ++ ownB [] ns)))
    rw [show ownB [] ns = [] by simp [ownB], List.append_nil]
  rintro ⟨k, hk⟩
  refine ⟨fun h => ?_, fun h => ?_⟩
  · have h : k < r.ps.length := by have h := of_decide_eq_true h; simp only at h; omega
    refine ⟨_, by omega, getP h, rfl, ?_⟩
    have hs : ns[k]? = some (ns[k]'(by omega)) := List.getElem?_eq_getElem _
    have hsn := ownB_snoc (r.ps.take k) r.ps[k] ns _ (by rw [show (r.ps.take k).length = k by simp; omega]; exact hs)
    rw [← List.take_succ_eq_append_getElem h] at hsn
    by_cases h2 : r.ps[k].f = 2
    · refine ⟨fun hbs => ?_, fun hbs => ?_⟩ <;> first | (exfalso; revert hbs; (simp [h2]); done) | skip
      have hv := var_ok (ns[k]'(by omega))
      have hsg : (eSs ns)[k]? = some (.lit (.string (ns[k]'(by omega)))) := getS (by omega)
      have hol := ownB_len (r.ps.take k) ns
      refine ⟨_, by omega, hsg, rfl, ?_⟩
      refine .inl ⟨_, hv, ?_⟩
      refine ⟨by simp [eLs] at *; omega, uniL _, uniL [(r.ps[k].s, r.ps[k].t, ns[k]'(by omega))], ?_⟩
      refine ⟨by kernel_rfl, ?_⟩
      refine ⟨⟨k + 1, h⟩, by simp; omega, ⟨rfl, rfl, rfl, ?_, rfl, rfl, svc (wrap_succ (k := k) (by omega)), trivial⟩, ⟨rfl, trivial⟩, rfl⟩
      show SV.v (AV.sl (eLs (r.lost ++ ownB (r.ps.take k) ns) ++ eLs [(r.ps[k].s, r.ps[k].t, ns[k]'(by omega))])) = SV.v (AV.sl (eLs (r.lost ++ ownB (r.ps.take (k + 1)) ns)))
      rw [hsn, if_pos h2]; simp [eLs]
    · refine ⟨fun hbs => ?_, fun hbs => ?_⟩ <;> first | (exfalso; revert hbs; (simp [h2]); done) | skip
      refine ⟨⟨k + 1, h⟩, by simp; omega, ⟨rfl, rfl, rfl, ?_, rfl, rfl, svc (wrap_succ (k := k) (by omega)), trivial⟩, ⟨rfl, trivial⟩, rfl⟩
      show SV.v (AV.sl (eLs (r.lost ++ ownB (r.ps.take k) ns))) = SV.v (AV.sl (eLs (r.lost ++ ownB (r.ps.take (k + 1)) ns)))
      rw [hsn, if_neg h2, List.append_nil]
  · have h : k = r.ps.length := by have h := of_decide_eq_false h; simp only at h; omega
    subst h
    have hm : made b (n + 1) (r :: l) ns = .leaf (r.lost ++ ownB r.ps ns) (b r.body) := by rw [made, shutIx_none ho]
    rw [List.take_length, hm]
    generalize r.lost ++ ownB r.ps ns = bs
    cases bs with
    | nil =>
      refine ⟨fun _ => ?_, fun h => by cases h⟩
      exact ⟨rfl, rfl, rfl⟩
    | cons q bs =>
      refine ⟨fun h => by have h := of_decide_eq_true h; simp [eLs] at h; omega, fun _ => ?_⟩
      exact ⟨rfl, rfl, rfl⟩
end Go.Proofs.YtefdahofpjmnfaaDoor

namespace Go.Proofs.YtefdahofpjmnfaaDoor
open Go Fp
set_option maxRecDepth 10000
set_option maxHeartbeats 16000000
set_option linter.unusedVariables false

theorem kidsN_len (v : ByteArray) (n : Nat) : (kidsN v n).length = n := by simp [kidsN]
theorem kidsN_succ (v : ByteArray) (n : Nat) : kidsN v (n + 1) = kidsN v n ++ [kidN v n] := by unfold kidsN; rw [List.range_succ, List.map_append]; rfl
theorem lenS (l : List ByteArray) : (eSs l).length = l.length := by simp [eSs]

theorem uniA (to : Tp) {α : Type} (f : α → Hd) (g : α → Cr) (l : List α) : Uni 14 (l.map fun x => eAlt to (f x) (g x)) := uniMap (f := fun x => eAlt to (f x) (g x)) (n := 14) (fun _ => rfl) l
abbrev cC (to : Tp) (v : ByteArray) (alts : List AV) : AV := .agg [.lit (.int .i64 9), .lit (.int .i64 0), .lit (.string .empty), .lit (.int .i64 to.form), .lit (.int .i64 to.num), .lit (.string to.nam), .sl to.eArgs, .sl [eVar v], .sl [], .sl alts]
theorem eCr_cas (to : Tp) (v : ByteArray) (hs : List Hd) (ks : List Cr) : eCr to (.cas v hs ks) = cC to v (Cr.altsL to hs ks) := by
  unfold eCr; rw [alts_cas]; rfl
theorem made_con (to : Tp) (b : Nat → Int) (b1 b2 b3 : Nat) (n : Nat) (r : Rw) (l : List Rw) (ns : List ByteArray) (a : Nat) (p : Pt) (v : ByteArray) (qs : List (ByteArray × List Tp))
    (hp : r.ps[a]? = some p) (hv : ns[a]? = some v) (hsh : ShutAt r.ps a) (h4 : p.f = 4) (hn : ns.length = r.ps.length) (hl : r.ps.length < 10000) (hll : (r :: l).length < 10000) (hvs : v.size ≤ 100000)
    (hC : ACall Tryd.prog n_cover_cons [cAV, .sl (eRws 3 b (r :: l)), .lit (.int .i64 (a : Nat))] (.sl (eCons qs))) (hq3 : qs.length ≤ 3) (hq2 : ∀ q ∈ qs, q.2.length ≤ 2)
    (hcol : ∀ x ∈ r :: l, colOk a x) (hcc : colCons a (r :: l) = some qs)
    (hM : ∀ q ∈ qs, MadeOk to b b1 b2 b3 n (parts (.con q.1 q.2.length) a v (r :: l)) (putN ns a (kidsN v q.2.length))) : MadeOk to b b1 b2 b3 (n + 1) (r :: l) ns := by
  have hI := indexShut_ok r.ps a hl hsh
  have hva := var_ok v
  have hal : a < ns.length := (List.getElem?_eq_some_iff.1 hv).1
  have hsg : (eSs ns)[a]? = some (.lit (.string v)) := by simp [eSs, hv]
  have hpg : (ePts r.ps)[a]? = some (ePt p) := by simp [ePts, hp]
  have hF := fun (K : Kn) (hm : K.many ≤ 2) => forms_ok 3 b K (r :: l) a v hcol hm hll
  have hix : shutIx r.ps = some a := by
    rcases hsh with ⟨k, hk, h1, h2, h3⟩ | ⟨h, _⟩
    · have : a = k := by omega
      subst this; exact shutIx_some h1 h2 h3
    · omega
  have hmd : made b (n + 1) (r :: l) ns = .cas v (qs.map fun q => (1, 0, q.1, kidsN v q.2.length)) (qs.map fun q => made b n (parts (.con q.1 q.2.length) a v (r :: l)) (putN ns a (kidsN v q.2.length))) := by
    rw [made, hix]; simp only [hp, hv, if_pos h4, hcc]
  unfold MadeOk
  rw [hmd]
  have hW := fun (own : List ByteArray) (ho : own.length < 10000) => with_ok ns own a hal (by omega) ho
  generalize hR : r :: l = rows at *
  have hR0 : rows[0]? = some r := by rw [← hR]; rfl
  have hRw : (eRws 3 b rows)[0]? = some (eRw 3 b r) := by simp [eRws, hR0]
  have hRl : rows.length ≠ 0 := by rw [← hR]; simp
  refine callsG_of_wcx (first := []) (cap := [ptrV b1, ptrV b2, ptrV b3]) ttok mixed Tryd.func26 rfl (by rfl) rfl (Nat.le_of_ble_eq_true rfl) (by kernel_rfl) ?_
  refine ⟨fun h => ?_, fun _ => ?_⟩
  · have h := of_decide_eq_true h; rw [lenRw] at h; omega
  refine ⟨_, by omega, hRw, rfl, ?_⟩
  refine .inl ⟨_, hI, ?_⟩
  refine ⟨fun h => by have h := of_decide_eq_true h; omega, fun _ => ?_⟩
  refine ⟨_, by omega, hsg, rfl, ?_⟩
  refine .inl ⟨_, hva, ?_⟩
  refine ⟨0, _, rfl, Nat.le_refl 4, ?_⟩
  refine ⟨by kernel_rfl, ?_⟩
  refine .inl ?_
  refine ⟨_, by omega, hpg, rfl, ?_⟩
  refine ⟨fun hbs => ?_, fun hbs => ?_⟩ <;> first | (exfalso; revert hbs; (simp [h4]); done) | skip
  refine ⟨1, _, _, rfl, rfl, ?_⟩
  refine .inl ⟨_, hC, ?_⟩
  refine ⟨{k : Nat // k ≤ qs.length}, fun k => { vs := [(0, .v (.sl (eRws 3 b rows))), (2, .v (.lit (ptrV b1))), (3, .v (.lit (ptrV b2))), (4, .v (.lit (ptrV b3))), (7, .box 0 zC), (9, .v (.ptr [.lit (.int .i64 (a : Nat))])), (13, .v (.lit (.string v))),
      (14, .box 0 (cC to v ((qs.take k.1).map fun q => eAlt to (1, 0, q.1, kidsN v q.2.length) (made b n (parts (.con q.1 q.2.length) a v rows) (putN ns a (kidsN v q.2.length)))))), (15, .v (.fn (.func n_cover_Compile_1_2) [] [.ptr [.sl (eSs ns)], .ptr [.lit (.int .i64 (a : Nat))]])),
      (94, .v (.sl (eCons qs))), (95, sv (qs.length : Nat)), (96, sv (k.1 : Nat))], ow := [(14, 9, 15)], hp := hpM to b1 b2 b3 },
    fun k => qs.length - k.1, ⟨0, Nat.zero_le _⟩, ⟨⟨rfl, rfl, rfl, rfl, rfl, rfl, rfl, rfl, rfl, rfl, svc (by rw [lenC]), rfl, trivial⟩, ⟨trivial, trivial⟩, rfl⟩, ?_⟩
  rintro ⟨k, hk⟩
  refine ⟨fun h => ?_, fun h => ?_⟩
  · have h : k < qs.length := by have h := of_decide_eq_true h; simp only at h; omega
    have hqm := List.getElem_mem h
    have hqg : (eCons qs)[k]? = some (eCon qs[k]) := getM h
    have hq := hq2 _ hqm
    have hMk := hM _ hqm
    have htk := List.take_succ_eq_append_getElem h
    generalize qs[k] = q at *
    refine ⟨_, by omega, hqg, rfl, ?_⟩
    refine ⟨{i : Nat // i ≤ q.2.length}, fun i => { vs := [(0, .v (.sl (eRws 3 b rows))), (2, .v (.lit (ptrV b1))), (3, .v (.lit (ptrV b2))), (4, .v (.lit (ptrV b3))), (7, .box 0 zC), (9, .v (.ptr [.lit (.int .i64 (a : Nat))])), (13, .v (.lit (.string v))),
        (14, .box 0 (cC to v ((qs.take k).map fun q => eAlt to (1, 0, q.1, kidsN v q.2.length) (made b n (parts (.con q.1 q.2.length) a v rows) (putN ns a (kidsN v q.2.length)))))), (15, .v (.fn (.func n_cover_Compile_1_2) [] [.ptr [.sl (eSs ns)], .ptr [.lit (.int .i64 (a : Nat))]])),
        (17, .box 0 (eCon q)), (18, .v (.sl (eSs (kidsN v i.1)))), (94, .v (.sl (eCons qs))), (95, sv (qs.length : Nat)), (96, sv (k : Nat)), (102, sv (q.2.length : Nat)), (103, sv (i.1 : Nat))], ow := [(14, 9, 15), (18, 0, 2)], hp := hpM to b1 b2 b3 },
      fun i => q.2.length - i.1, ⟨0, Nat.zero_le _⟩, ⟨⟨rfl, rfl, rfl, rfl, rfl, rfl, rfl, rfl, rfl, rfl, rfl, rfl, rfl, rfl, svc (by rw [lenT]), rfl, trivial⟩, ⟨rfl, trivial, trivial⟩, rfl⟩, ?_⟩
    rintro ⟨i, hi⟩
    refine ⟨fun h' => ?_, fun h' => ?_⟩
    · have h' : i < q.2.length := by have h' := of_decide_eq_true h'; simp only at h'; omega
      refine ⟨by show v.size + 1 ≤ _; omega, ?_⟩
      refine .inl ⟨_, itoa_ok i (by omega), ?_⟩
      refine ⟨by show (v ++ ⟨#[64]⟩).size + (dig i).size ≤ _; rw [ByteArray.size_append]; show v.size + 1 + 1 ≤ _; omega, ?_⟩
      refine ⟨by rw [lenS, kidsN_len]; simp; omega, uniS _, uniS [kidN v i], ?_⟩
      refine ⟨⟨i + 1, h'⟩, by simp; omega, ⟨rfl, rfl, rfl, rfl, rfl, rfl, rfl, rfl, rfl, rfl, ?_, rfl, rfl, rfl, rfl, svc (wrap_succ (k := i) (by omega)), trivial⟩, ⟨rfl, rfl, trivial⟩, rfl⟩
      show SV.v (AV.sl (eSs (kidsN v i) ++ eSs [kidN v i])) = SV.v (AV.sl (eSs (kidsN v (i + 1))))
      rw [kidsN_succ]; simp [eSs]
    · have h' : i = q.2.length := by have h' := of_decide_eq_false h'; simp only at h'; omega
      subst h'
      have hO := ofCon_ok q.1 q.2.length
      have hFq := hF (.con q.1 q.2.length) hq
      have hWq := hW (kidsN v q.2.length) (by rw [kidsN_len]; omega)
      have e1 : ((Kn.many (.con q.1 q.2.length) : Nat) : Int) = ((eSs (kidsN v q.2.length)).length : Nat) := by rw [lenS, kidsN_len]; rfl
      rw [e1] at hFq
      refine ⟨2, _, _, rfl, rfl, ?_⟩
      refine .inl ⟨_, hO, ?_⟩
      refine .inl ⟨_, hFq, ?_⟩
      refine .inl ⟨_, hWq, ?_⟩
      refine .inr (.inr (.inl ⟨[0, 1, 2], hpM to b1 b2 b3, _, rfl, by decide, hMk, ?_⟩))
      refine ⟨by kernel_rfl, ?_⟩
      refine ⟨by simp; omega, uniA to (fun q : ByteArray × List Tp => (1, 0, q.1, kidsN v q.2.length)) (fun q => made b n (parts (.con q.1 q.2.length) a v rows) (putN ns a (kidsN v q.2.length))) _, uni1 rfl, ?_⟩
      refine ⟨⟨k + 1, h⟩, by simp; omega, ⟨rfl, rfl, rfl, rfl, rfl, rfl, rfl, ?_, rfl, rfl, rfl, svc (wrap_succ (k := k) (by omega)), trivial⟩, ⟨rfl, trivial⟩, rfl⟩
      show SV.box 0 (cC to v (((qs.take k).map fun q => eAlt to (1, 0, q.1, kidsN v q.2.length) (made b n (parts (.con q.1 q.2.length) a v rows) (putN ns a (kidsN v q.2.length)))) ++ [eAlt to (1, 0, q.1, kidsN v q.2.length) (made b n (parts (.con q.1 q.2.length) a v rows) (putN ns a (kidsN v q.2.length)))])) = _
      rw [htk, List.map_append]; rfl
  · have h : k = qs.length := by have h := of_decide_eq_false h; simp only at h; omega
    subst h
    rw [eCr_cas, altsL_map, List.take_length]
    exact ⟨rfl, rfl, rfl⟩
end Go.Proofs.YtefdahofpjmnfaaDoor
