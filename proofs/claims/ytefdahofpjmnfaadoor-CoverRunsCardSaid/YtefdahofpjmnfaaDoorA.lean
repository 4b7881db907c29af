/- Patterns as trees, and how they lie in memory; small facts. No condition. -/
import Derived.Test.YtefdahofpjmnfaaDoorS1
import Derived.Test.YtefdahofpjmnfaaDoorFpE
set_option linter.unusedSimpArgs false
set_option linter.unusedVariables false
namespace Go.Proofs.YtefdahofpjmnfaaDoor
open Go Fp
set_option maxRecDepth 10000

theorem getT {l : List Tp} {k : Nat} (h : k < l.length) : (eTys l)[k]? = some (eTy l[k]) := by
  simp [eTys, h]
theorem uniT (l : List Tp) : Uni 4 (eTys l) := fun a ha => by
  obtain ⟨x, _, rfl⟩ := List.mem_map.1 ha; rfl
theorem takeT {l : List Tp} {k : Nat} (h : k < l.length) : eTys (l.take k) ++ [eTy l[k]] = eTys (l.take (k + 1)) := by
  rw [List.take_succ_eq_append_getElem h]; unfold eTys; rw [List.map_append]; rfl
theorem wrap_nat {n : Nat} (h : n < 9223372036854775808) : IntKind.i64.wrap (n : Int) = n := by
  simp [IntKind.wrap, IntKind.signed, IntKind.bits, Int.bmod]; omega
theorem wrap_succ {k : Nat} (h : k + 1 < 9223372036854775808) : IntKind.i64.wrap ((k : Int) + 1) = ((k + 1 : Nat) : Int) := by
  have := wrap_nat h; simpa using this
theorem wrap_pred {k : Nat} (h : k + 1 < 9223372036854775808) : IntKind.i64.wrap (((k + 1 : Nat) : Int) - 1) = (k : Int) := by
  rw [show (((k + 1 : Nat) : Int) - 1) = (k : Int) by omega]; exact wrap_nat (by omega)
theorem wrap_in {n : Int} (h : InR n) : IntKind.i64.wrap n = n := by
  unfold InR at h
  simp [IntKind.wrap, IntKind.signed, IntKind.bits]; omega
theorem getI {l : List Int} {k : Nat} (h : k < l.length) : (eIs l)[k]? = some (.lit (.int .i64 l[k])) := by simp [eIs, h]
theorem getS {l : List ByteArray} {k : Nat} (h : k < l.length) : (eSs l)[k]? = some (.lit (.string l[k])) := by simp [eSs, h]
theorem uniI (l : List Int) : Uni 1 (eIs l) := fun a ha => by obtain ⟨x, _, rfl⟩ := List.mem_map.1 ha; rfl
theorem uniS (l : List ByteArray) : Uni 1 (eSs l) := fun a ha => by obtain ⟨x, _, rfl⟩ := List.mem_map.1 ha; rfl
theorem uni1 {x : AV} {n : Nat} (h : x.cells.length = n) : Uni n [x] := fun a ha => by simp at ha; subst ha; exact h
theorem uni0 (n : Nat) : Uni n [] := fun a ha => by simp at ha
theorem uniApp {n : Nat} {l m : List AV} (h : Uni n l) (k : Uni n m) : Uni n (l ++ m) := fun a ha => by
  rcases List.mem_append.1 ha with ha | ha
  · exact h a ha
  · exact k a ha
theorem uniMap {α : Type} {n : Nat} {f : α → AV} (h : ∀ x, (f x).cells.length = n) (l : List α) : Uni n (l.map f) := fun a ha => by obtain ⟨x, _, rfl⟩ := List.mem_map.1 ha; exact h x
theorem getM {α : Type} {f : α → AV} {l : List α} {k : Nat} (h : k < l.length) : (l.map f)[k]? = some (f l[k]) := by simp [h]
theorem takeM {α : Type} {f : α → AV} {l : List α} {k : Nat} (h : k < l.length) : (l.take k).map f ++ [f l[k]] = (l.take (k + 1)).map f := by
  rw [List.take_succ_eq_append_getElem h, List.map_append]; rfl

/-- A pattern: what it is, its number, its name, its type, its types, its parts. -/
inductive Pt where
  | mk (f n : Int) (s : ByteArray) (t : Tp) (ts : List Tp) (k : List Pt)

namespace Pt
def f : Pt → Int | mk f _ _ _ _ _ => f
def n : Pt → Int | mk _ n _ _ _ _ => n
def s : Pt → ByteArray | mk _ _ s _ _ _ => s
def t : Pt → Tp | mk _ _ _ t _ _ => t
def ts : Pt → List Tp | mk _ _ _ _ ts _ => ts
def k : Pt → List Pt | mk _ _ _ _ _ k => k
mutual
def eKids : Pt → List AV
  | mk _ _ _ _ _ k => eList k
def eList : List Pt → List AV
  | [] => []
  | p :: r => .agg [.lit (.int .i64 p.f), .lit (.int .i64 0), .lit (.int .i64 p.n), .lit (.string p.s), .sl p.eKids, .lit (.int .i64 p.t.form), .lit (.int .i64 p.t.num), .lit (.string p.t.nam), .sl p.t.eArgs, .sl (eTys p.ts)] :: eList r
end
end Pt
def ePt (p : Pt) : AV := .agg [.lit (.int .i64 p.f), .lit (.int .i64 0), .lit (.int .i64 p.n), .lit (.string p.s), .sl p.eKids, .lit (.int .i64 p.t.form), .lit (.int .i64 p.t.num), .lit (.string p.t.nam), .sl p.t.eArgs, .sl (eTys p.ts)]
def ePts (l : List Pt) : List AV := l.map ePt
theorem Pt.eList_eq : ∀ l : List Pt, Pt.eList l = ePts l
  | [] => by simp [Pt.eList, ePts]
  | p :: r => by simp [Pt.eList, ePts, ePt, Pt.eList_eq r]
theorem Pt.eKids_eq (p : Pt) : p.eKids = ePts p.k := by cases p; simp [Pt.eKids, Pt.eList_eq, Pt.k]
theorem uniP (l : List Pt) : Uni 10 (ePts l) := uniMap (f := ePt) (n := 10) (fun _ => rfl) l
theorem getP {l : List Pt} {k : Nat} (h : k < l.length) : (ePts l)[k]? = some (ePt l[k]) := getM h
theorem takeP {l : List Pt} {k : Nat} (h : k < l.length) : ePts (l.take k) ++ [ePt l[k]] = ePts (l.take (k + 1)) := takeM h
theorem lenP (l : List Pt) : (ePts l).length = l.length := by simp [ePts]

mutual
def Pt.nodes : Pt → Nat
  | .mk f _ _ _ _ k => (if f = 3 ∨ f = 4 then 1 else 0) + nodesL k
def nodesL : List Pt → Nat
  | [] => 0
  | p :: r => p.nodes + nodesL r
end
mutual
def Pt.sz : Pt → Nat
  | .mk _ _ _ _ _ k => 1 + szL k
def szL : List Pt → Nat
  | [] => 0
  | p :: r => p.sz + szL r
end
theorem sz_mem {x : Pt} : ∀ {l : List Pt}, x ∈ l → x.sz ≤ szL l
  | y :: r, h => by
    rcases List.mem_cons.1 h with rfl | h
    · simp [szL]
    · have := sz_mem h; simp [szL]; omega
theorem sz_kid {p x : Pt} (h : x ∈ p.k) : x.sz < p.sz := by
  cases p with
  | mk f n s t ts k => have := sz_mem (x := x) (l := k) h; simp [Pt.sz]; omega
theorem nodesL_mem {x : Pt} : ∀ {l : List Pt}, x ∈ l → x.nodes ≤ nodesL l
  | y :: r, h => by
    rcases List.mem_cons.1 h with rfl | h
    · simp [nodesL]
    · have := nodesL_mem h; simp [nodesL]; omega
theorem nodesL_app : ∀ l m : List Pt, nodesL (l ++ m) = nodesL l + nodesL m
  | [], m => by simp [nodesL]
  | p :: r, m => by simp [nodesL, nodesL_app r m]; omega
theorem szL_app : ∀ l m : List Pt, szL (l ++ m) = szL l + szL m
  | [], m => by simp [szL]
  | p :: r, m => by simp [szL, szL_app r m]; omega

def wildP : Pt := .mk 1 0 .empty .no [] []
def intP (n : Int) : Pt := .mk 3 n .empty .no [] []
def conP (s : ByteArray) (k : List Pt) : Pt := .mk 4 0 s .no [] k

/-! The world's types: 0 Int, 1 Bool, 2 L Int, 3 T, 4 L Bool. -/
abbrev sInt : ByteArray := ⟨#[73, 110, 116]⟩
abbrev sBool : ByteArray := ⟨#[66, 111, 111, 108]⟩
abbrev sL : ByteArray := ⟨#[76]⟩
abbrev sT : ByteArray := ⟨#[84]⟩
abbrev sFalse : ByteArray := ⟨#[70, 97, 108, 115, 101]⟩
abbrev sTrue : ByteArray := ⟨#[84, 114, 117, 101]⟩
abbrev sN : ByteArray := ⟨#[78]⟩
abbrev sC : ByteArray := ⟨#[67]⟩
abbrev sA : ByteArray := ⟨#[65]⟩
abbrev sB : ByteArray := ⟨#[66]⟩
abbrev sD : ByteArray := ⟨#[68]⟩
abbrev sa : ByteArray := ⟨#[97]⟩

def wTy : Nat → Tp
  | 0 => .con sInt
  | 1 => .con sBool
  | 2 => .app (.con sL) (.con sInt)
  | 3 => .con sT
  | _ => .app (.con sL) (.con sBool)
/-- The constructors of a type, and the types of their fields. -/
def wCons : Nat → List (ByteArray × List Nat)
  | 1 => [(sFalse, []), (sTrue, [])]
  | 2 => [(sN, []), (sC, [0, 2])]
  | 3 => [(sA, []), (sB, [0, 1]), (sD, [3])]
  | 4 => [(sN, []), (sC, [1, 4])]
  | _ => []
/-- A pattern is of a type. -/
inductive TyP : Nat → Pt → Prop
  | any (t : Nat) (p : Pt) (hf : p.f = 1 ∨ p.f = 2) (hk : p.k = []) (hv : p.f = 2 → p.s.size ≤ 4 ∧ p.t = wTy t) : TyP t p
  | int (p : Pt) (hf : p.f = 3) (hk : p.k = []) (hn : 0 ≤ p.n ∧ p.n < 1000) : TyP 0 p
  | con (t : Nat) (p : Pt) (fs : List Nat) (hf : p.f = 4) (hs : (p.s, fs) ∈ wCons t) (hl : p.k.length = fs.length) (hk : ∀ (i : Nat) (x : Pt) u, p.k[i]? = some x → fs[i]? = some u → TyP u x) : TyP t p
end Go.Proofs.YtefdahofpjmnfaaDoor

namespace Go.Proofs.YtefdahofpjmnfaaDoor
open Go Fp
set_option maxRecDepth 10000
set_option maxHeartbeats 4000000

/-- The number at a place. -/
theorem pick_of {f : Nat} {l : List Int} {k : Nat} (hr : ∀ x ∈ l, InR x)
    (h : (l.length ≤ k → ACall Tryd.prog f [.sl (eIs l), .lit (.int .i64 (k : Nat))] (.lit (.int .i64 0))) ∧ ∀ x, l[k]? = some x →
      (x < 0 → ACall Tryd.prog f [.sl (eIs l), .lit (.int .i64 (k : Nat))] (.lit (.int .i64 (IntKind.i64.wrap (0 - IntKind.i64.wrap (x + 1)))))) ∧ (¬ x < 0 → ACall Tryd.prog f [.sl (eIs l), .lit (.int .i64 (k : Nat))] (.lit (.int .i64 x)))) :
    ∃ r : Nat, r < 9223372036854775808 ∧ ACall Tryd.prog f [.sl (eIs l), .lit (.int .i64 (k : Nat))] (.lit (.int .i64 (r : Nat))) := by
  by_cases hk : k < l.length
  · obtain ⟨h1, h2⟩ := h.2 l[k] (by simp [hk])
    have hx := hr l[k] (List.getElem_mem hk)
    generalize l[k] = x at *
    have hx' := hx
    unfold InR at hx
    by_cases h0 : x < 0
    · have e1 : IntKind.i64.wrap (x + 1) = x + 1 := wrap_in (by unfold InR; omega)
      have e2 : IntKind.i64.wrap (0 - (x + 1)) = -(x + 1) := by rw [wrap_in (by unfold InR; omega)]; omega
      refine ⟨(-(x + 1)).toNat, by omega, ?_⟩
      have := h1 h0
      rw [e1, e2] at this
      rw [show ((-(x + 1)).toNat : Int) = -(x + 1) by omega]
      exact this
    · refine ⟨x.toNat, by omega, ?_⟩
      rw [show (x.toNat : Int) = x by omega]
      exact h2 h0
  · exact ⟨0, by omega, h.1 (by omega)⟩

theorem pick20_ok {l : List Int} {k : Nat} (hr : ∀ x ∈ l, InR x) : ∃ r : Nat, r < 9223372036854775808 ∧ ACall Tryd.prog n_fugueref20_pick [.sl (eIs l), .lit (.int .i64 (k : Nat))] (.lit (.int .i64 (r : Nat))) := by
  refine pick_of hr ⟨fun h => ?_, fun x hx => ⟨fun h0 => ?_, fun h0 => ?_⟩⟩
  · refine acall_of_wc ttok mixed Tryd.func23 rfl (by rfl) (Nat.le_of_ble_eq_true rfl) (by kernel_rfl) ?_
    refine ⟨fun _ => rfl, fun h' => ?_⟩
    simp [eIs] at h'; omega
  all_goals
    have hk := (List.getElem?_eq_some_iff.1 hx).1
    have hm : (eIs l)[k]? = some (.lit (.int .i64 x)) := by simp [eIs, hx]
    refine acall_of_wc ttok mixed Tryd.func23 rfl (by rfl) (Nat.le_of_ble_eq_true rfl) (by kernel_rfl) ?_
    refine ⟨fun h' => by simp [eIs] at h'; omega, fun _ => ?_⟩
    refine ⟨_, by omega, hm, rfl, ?_⟩
  · refine ⟨fun _ => ?_, fun h' => by simp at h'; omega⟩
    exact ⟨_, by omega, hm, rfl, rfl⟩
  · refine ⟨fun h' => by simp at h'; omega, fun _ => ?_⟩
    exact ⟨_, by omega, hm, rfl, rfl⟩
theorem pick14_ok {l : List Int} {k : Nat} (hr : ∀ x ∈ l, InR x) : ∃ r : Nat, r < 9223372036854775808 ∧ ACall Tryd.prog n_fugueref14_pick [.sl (eIs l), .lit (.int .i64 (k : Nat))] (.lit (.int .i64 (r : Nat))) := by
  refine pick_of hr ⟨fun h => ?_, fun x hx => ⟨fun h0 => ?_, fun h0 => ?_⟩⟩
  · refine acall_of_wc ttok mixed Tryd.func60 rfl (by rfl) (Nat.le_of_ble_eq_true rfl) (by kernel_rfl) ?_
    refine ⟨fun _ => rfl, fun h' => ?_⟩
    simp [eIs] at h'; omega
  all_goals
    have hk := (List.getElem?_eq_some_iff.1 hx).1
    have hm : (eIs l)[k]? = some (.lit (.int .i64 x)) := by simp [eIs, hx]
    refine acall_of_wc ttok mixed Tryd.func60 rfl (by rfl) (Nat.le_of_ble_eq_true rfl) (by kernel_rfl) ?_
    refine ⟨fun h' => by simp [eIs] at h'; omega, fun _ => ?_⟩
    refine ⟨_, by omega, hm, rfl, ?_⟩
  · refine ⟨fun _ => ?_, fun h' => by simp at h'; omega⟩
    exact ⟨_, by omega, hm, rfl, rfl⟩
  · refine ⟨fun h' => by simp at h'; omega, fun _ => ?_⟩
    exact ⟨_, by omega, hm, rfl, rfl⟩

/-- One digit: some text of one byte. -/
theorem digit_ok (n : Int) : ∃ s : ByteArray, s.size ≤ 1 ∧ ACall Tryd.prog n_fugueref14_digit [.lit (.int .i64 n)] (.lit (.string s)) := by
  refine ⟨⟨#[UInt8.ofNat (IntKind.u8.wrap (IntKind.i64.wrap (48 + n.tmod 10))).toNat]⟩, Nat.le_refl 1, ?_⟩
  refine acall_of_wc ttok mixed Tryd.func61 rfl (by rfl) (Nat.le_of_ble_eq_true rfl) (by kernel_rfl) ?_
  refine ⟨by decide, ?_⟩
  exact rfl

theorem given_ok (s : ByteArray) (l : List Tp) (hl : l.length < 1000) : ACall Tryd.prog n_fugueref14_given [.lit (.string s), .sl (eTys l)] (eTy (l.foldl .app (.con s))) := by
  refine acall_of_wc ttok mixed Tryd.func74 rfl (by rfl) (Nat.le_of_ble_eq_true rfl) (by kernel_rfl) ?_
  refine ⟨{k : Nat // k ≤ l.length}, fun k => { vs := [(1, .v (.sl (eTys l))), (4, .box 0 (eTy .no)), (5, .box 0 (eTy ((l.take k.1).foldl .app (.con s)))), (6, .v (.lit (.int .i64 (k.1 : Nat))))] },
    fun k => l.length - k.1, ⟨0, Nat.zero_le _⟩, ⟨⟨rfl, rfl, rfl, rfl, trivial⟩, trivial, rfl⟩, ?_⟩
  rintro ⟨k, hk⟩
  refine ⟨fun h => ?_, fun h => ?_⟩
  · have h : k < l.length := by simp [eTys] at h; omega
    refine ⟨_, by omega, getT h, rfl, ?_⟩
    refine ⟨⟨k + 1, h⟩, by simp; omega, ⟨rfl, rfl, ?_, ?_, trivial⟩, trivial, rfl⟩
    · show SV.box _ (eTy (.app ((l.take k).foldl .app (.con s)) l[k])) = SV.box _ (eTy ((l.take (k + 1)).foldl .app (.con s)))
      rw [List.take_succ_eq_append_getElem h, List.foldl_append]; rfl
    · exact congrArg (fun l => SV.v (AV.lit (Value.int .i64 l))) (wrap_succ (k := k) (by omega))
  · have h : k = l.length := by simp [eTys] at h; omega
    subst h
    show eTy ((l.take l.length).foldl .app (.con s)) = _
    rw [List.take_length]

theorem worldType_ok (t : Nat) (ht : t < 5) : ACall Tryd.prog n_fugueref14_WorldType [.lit (.int .i64 (t : Nat))] (eTy (wTy t)) := by
  refine acall_of_wc ttok mixed Tryd.func44 rfl (by rfl) (Nat.le_of_ble_eq_true rfl) (by kernel_rfl) ?_
  match t, ht with
  | 0, _ => exact ⟨fun _ => .inl ⟨_, given_ok sInt [] (by decide), rfl⟩, fun h => by simp at h⟩
  | 1, _ => exact ⟨fun h => by simp at h, fun _ => ⟨fun _ => .inl ⟨_, given_ok sBool [] (by decide), rfl⟩, fun h => by simp at h⟩⟩
  | 2, _ => exact ⟨fun h => by simp at h, fun _ => ⟨fun h => by simp at h, fun _ => ⟨fun _ => .inl ⟨_, given_ok sInt [] (by decide), .inl ⟨_, given_ok sL [.con sInt] (by decide), rfl⟩⟩, fun h => by simp at h⟩⟩⟩
  | 3, _ => exact ⟨fun h => by simp at h, fun _ => ⟨fun h => by simp at h, fun _ => ⟨fun h => by simp at h, fun _ => ⟨fun _ => .inl ⟨_, given_ok sT [] (by decide), rfl⟩, fun h => by simp at h⟩⟩⟩⟩
  | 4, _ => exact ⟨fun h => by simp at h, fun _ => ⟨fun h => by simp at h, fun _ => ⟨fun h => by simp at h, fun _ => ⟨fun h => by simp at h, fun _ => .inl ⟨_, given_ok sBool [] (by decide), .inl ⟨_, given_ok sL [.con sBool] (by decide), rfl⟩⟩⟩⟩⟩⟩
  | n + 5, h => omega

def eFs (l : List (ByteArray × List Nat)) : List AV := l.map fun p => .sl (eIs (p.2.map Int.ofNat))
theorem worldFields_ok (t : Nat) (ht : 0 < t ∧ t < 5) : ACall Tryd.prog n_fugueref14_WorldFields [.lit (.int .i64 (t : Nat))] (.tup [.sl (eSs ((wCons t).map (·.1))), .sl (eFs (wCons t))]) := by
  refine acall_of_wc ttok mixed Tryd.func55 rfl (by rfl) (Nat.le_of_ble_eq_true rfl) (by kernel_rfl) ?_
  match t, ht with
  | 0, h => omega
  | 1, _ => exact ⟨fun _ => rfl, fun h => by simp at h⟩
  | 2, _ => exact ⟨fun h => by simp at h, fun _ => ⟨fun _ => rfl, fun h => by simp at h⟩⟩
  | 3, _ => exact ⟨fun h => by simp at h, fun _ => ⟨fun h => by simp at h, fun _ => ⟨fun _ => rfl, fun h => by simp at h⟩⟩⟩
  | 4, _ => exact ⟨fun h => by simp at h, fun _ => ⟨fun h => by simp at h, fun _ => ⟨fun h => by simp at h, fun _ => ⟨fun _ => rfl, fun h => by simp at h⟩⟩⟩⟩
  | n + 5, h => omega
end Go.Proofs.YtefdahofpjmnfaaDoor

namespace Go.Proofs.YtefdahofpjmnfaaDoor
open Go Fp
set_option maxRecDepth 10000
set_option maxHeartbeats 4000000

/-- How many places a pattern takes, at most. -/
def cap : Nat → Nat
  | 0 => 1
  | d + 1 => 1 + 2 * cap d

abbrev aPt (f n : Int) (s : ByteArray) (k : List AV) (t : Tp) (ts : List Tp) : AV :=
  .agg [.lit (.int .i64 f), .lit (.int .i64 0), .lit (.int .i64 n), .lit (.string s), .sl k, .lit (.int .i64 t.form), .lit (.int .i64 t.num), .lit (.string t.nam), .sl t.eArgs, .sl (eTys ts)]
theorem aPt_eq (f n : Int) (s : ByteArray) (k : List Pt) (t : Tp) (ts : List Tp) : aPt f n s (ePts k) t ts = ePt (.mk f n s t ts k) := by
  unfold aPt ePt
  rw [Pt.eKids_eq]; rfl

section
variable {l : List Int} {a t d n : Nat}
theorem pat_wild (ha : a < 4611686018427387904) (ht : t < 5) (hpick : ACall Tryd.prog n_fugueref14_pick [.sl (eIs l), .lit (.int .i64 (a : Nat))] (.lit (.int .i64 (n : Nat))))
    (h0 : n % 5 = 0 ∨ d = 0 ∧ 0 < t) :
    ACall Tryd.prog n_fugueref14_Pattern [.sl (eIs l), .lit (.int .i64 (a : Nat)), .lit (.int .i64 (t : Nat)), .lit (.int .i64 (d : Nat))] (.tup [ePt (.mk 1 0 .empty (wTy t) [] []), .lit (.int .i64 ((a + 1 : Nat) : Int))]) := by
  have hw := worldType_ok t ht
  have m5 : ((n : Int).tmod 5) = ((n % 5 : Nat) : Int) := rfl
  rw [← wrap_succ (k := a) (by omega)]
  refine acall_of_wc ttok mixed Tryd.func24 rfl (by rfl) (Nat.le_of_ble_eq_true rfl) (by kernel_rfl) ?_
  refine .inl ⟨_, hpick, .inl ⟨_, hw, ?_⟩⟩
  refine ⟨by decide, ?_⟩
  refine ⟨fun h => ?_, fun h => ?_⟩
  · have h : ¬ n % 5 = 0 := by simp at h; omega
    refine ⟨fun h' => ?_, fun h' => ?_⟩
    · refine ⟨fun _ => ?_, fun h'' => ?_⟩
      · exact rfl
      · simp at h''; omega
    · simp at h'; omega
  · exact rfl

theorem pat_var (ha : a < 4611686018427387904) (ht : t < 5) (hpick : ACall Tryd.prog n_fugueref14_pick [.sl (eIs l), .lit (.int .i64 (a : Nat))] (.lit (.int .i64 (n : Nat))))
    (h0 : ¬ (n % 5 = 0 ∨ d = 0 ∧ 0 < t)) (h1 : n % 5 = 1) :
    ∃ s : ByteArray, s.size ≤ 4 ∧ ACall Tryd.prog n_fugueref14_Pattern [.sl (eIs l), .lit (.int .i64 (a : Nat)), .lit (.int .i64 (t : Nat)), .lit (.int .i64 (d : Nat))] (.tup [ePt (.mk 2 0 s (wTy t) [] []), .lit (.int .i64 ((a + 1 : Nat) : Int))]) := by
  have hw := worldType_ok t ht
  have m5 : ((n : Int).tmod 5) = ((n % 5 : Nat) : Int) := rfl
  obtain ⟨s1, hs1, hc1⟩ := digit_ok (IntKind.i64.wrap ((a : Int).tdiv 10))
  obtain ⟨s2, hs2, hc2⟩ := digit_ok (a : Int)
  refine ⟨⟨#[118]⟩ ++ s1 ++ s2, ?_, ?_⟩
  · rw [ByteArray.size_append, ByteArray.size_append, show (⟨#[118]⟩ : ByteArray).size = 1 from rfl]; omega
  rw [← wrap_succ (k := a) (by omega)]
  refine acall_of_wc ttok mixed Tryd.func24 rfl (by rfl) (Nat.le_of_ble_eq_true rfl) (by kernel_rfl) ?_
  refine .inl ⟨_, hpick, .inl ⟨_, hw, ?_⟩⟩
  refine ⟨by decide, ?_⟩
  have fin : ∀ (F : Prop), F → F := fun _ h => h
  refine ⟨fun h => ?_, fun h => by simp at h; omega⟩
  refine ⟨fun h => ?_, fun h => ?_⟩
  · refine ⟨fun h' => ?_, fun h' => ?_⟩
    · simp at h h'; omega
    · refine ⟨by decide, ⟨fun _ => ?_, fun h => by simp at h; omega⟩⟩
      refine ⟨by decide, .inl ⟨_, hc1, ?_⟩⟩
      refine ⟨by rw [show (⟨#[118]⟩ : ByteArray).size = 1 from rfl]; omega, .inl ⟨_, hc2, ?_⟩⟩
      refine ⟨by rw [ByteArray.size_append, show (⟨#[118]⟩ : ByteArray).size = 1 from rfl]; omega, ?_⟩
      exact rfl
  · refine ⟨by decide, ⟨fun _ => ?_, fun h => by simp at h; omega⟩⟩
    refine ⟨by decide, .inl ⟨_, hc1, ?_⟩⟩
    refine ⟨by rw [show (⟨#[118]⟩ : ByteArray).size = 1 from rfl]; omega, .inl ⟨_, hc2, ?_⟩⟩
    refine ⟨by rw [ByteArray.size_append, show (⟨#[118]⟩ : ByteArray).size = 1 from rfl]; omega, ?_⟩
    exact rfl

theorem pat_int (ha : a < 4611686018427387904) (hpick : ACall Tryd.prog n_fugueref14_pick [.sl (eIs l), .lit (.int .i64 (a : Nat))] (.lit (.int .i64 (n : Nat)))) (hn : n < 9223372036854775808)
    (h0 : ¬ n % 5 = 0) (h1 : ¬ n % 5 = 1) :
    ACall Tryd.prog n_fugueref14_Pattern [.sl (eIs l), .lit (.int .i64 (a : Nat)), .lit (.int .i64 ((0 : Nat) : Int)), .lit (.int .i64 (d : Nat))] (.tup [ePt (.mk 3 ((n / 5 % 4 : Nat) : Int) .empty (wTy 0) [] []), .lit (.int .i64 ((a + 1 : Nat) : Int))]) := by
  have hw := worldType_ok 0 (by decide)
  have m5 : ((n : Int).tmod 5) = ((n % 5 : Nat) : Int) := rfl
  have w5 : IntKind.i64.wrap ((n : Int).tdiv 5) = ((n / 5 : Nat) : Int) := by rw [show ((n : Int).tdiv 5) = ((n / 5 : Nat) : Int) by simp]; exact wrap_nat (by omega)
  have w4 : ((n / 5 % 4 : Nat) : Int) = (IntKind.i64.wrap ((n : Int).tdiv 5)).tmod 4 := by rw [w5]; rfl
  rw [← wrap_succ (k := a) (by omega), w4]
  refine acall_of_wc ttok mixed Tryd.func24 rfl (by rfl) (Nat.le_of_ble_eq_true rfl) (by kernel_rfl) ?_
  refine .inl ⟨_, hpick, .inl ⟨_, hw, ?_⟩⟩
  refine ⟨by decide, ?_⟩
  refine ⟨fun h => ?_, fun h => by simp at h; omega⟩
  refine ⟨fun h => ?_, fun h => ?_⟩
  · refine ⟨fun h => by simp at h, fun _ => ?_⟩
    refine ⟨by decide, ⟨fun h => by simp at h; omega, fun _ => ?_⟩⟩
    refine ⟨fun _ => ?_, fun h => by simp at h⟩
    refine ⟨by decide, by decide, ?_⟩
    exact rfl
  · refine ⟨by decide, ⟨fun h => by simp at h; omega, fun _ => ?_⟩⟩
    refine ⟨fun _ => ?_, fun h => by simp at h⟩
    refine ⟨by decide, by decide, ?_⟩
    exact rfl
end
end Go.Proofs.YtefdahofpjmnfaaDoor

namespace Go.Proofs.YtefdahofpjmnfaaDoor
open Go Fp
set_option maxRecDepth 10000
set_option maxHeartbeats 8000000

/-- Parts made one behind the other. -/
def stp (P : Nat → Nat → Pt) (N : Nat → Nat → Nat) : List Nat → Nat → List Pt × Nat
  | [], a => ([], a)
  | u :: fs, a => (P a u :: (stp P N fs (N a u)).1, (stp P N fs (N a u)).2)
theorem stp_snoc {P : Nat → Nat → Pt} {N : Nat → Nat → Nat} (u : Nat) : ∀ (fs : List Nat) (a : Nat), stp P N (fs ++ [u]) a = ((stp P N fs a).1 ++ [P (stp P N fs a).2 u], N (stp P N fs a).2 u)
  | [], a => rfl
  | v :: fs, a => by simp only [List.cons_append, stp, stp_snoc u fs]
theorem stp_facts {P : Nat → Nat → Pt} {N : Nat → Nat → Nat} {c : Nat} (h : ∀ a t, a + c < 4611686018427387904 → t < 5 → TyP t (P a t) ∧ N a t ≤ a + c ∧ (P a t).sz ≤ c) :
    ∀ (fs : List Nat) (a : Nat), (∀ u ∈ fs, u < 5) → a + fs.length * c < 4611686018427387904 →
    (stp P N fs a).1.length = fs.length ∧ (∀ (i : Nat) (x : Pt) u, (stp P N fs a).1[i]? = some x → fs[i]? = some u → TyP u x) ∧ (stp P N fs a).2 ≤ a + fs.length * c ∧ szL (stp P N fs a).1 ≤ fs.length * c
  | [], a, _, _ => ⟨rfl, fun i x u hx => by simp [stp] at hx, by simp [stp], by simp [stp, szL]⟩
  | v :: fs, a, h5, hb => by
    have e1 : (v :: fs).length * c = c + fs.length * c := by rw [List.length_cons, Nat.add_mul, Nat.one_mul, Nat.add_comm]
    rw [e1] at hb ⊢
    obtain ⟨h1, h2, h3⟩ := h a v (by omega) (h5 v (by simp))
    obtain ⟨k1, k2, k3, k4⟩ := stp_facts h fs (N a v) (fun u hu => h5 u (by simp [hu])) (by omega)
    refine ⟨by simp [stp, k1], fun i x u hx hu => ?_, by simp only [stp]; omega, by simp only [stp, szL]; omega⟩
    cases i with
    | zero => simp [stp] at hx hu; subst hx; subst hu; exact h1
    | succ i => exact k2 i x u (by simpa [stp] using hx) (by simpa using hu)

def tsOf (t : Nat) : List Tp := if t = 2 then [wTy 0] else if t = 4 then [wTy 1] else []

theorem wCons_len {t : Nat} (h0 : 0 < t) (h5 : t < 5) : 0 < (wCons t).length ∧ (wCons t).length ≤ 3 := by
  match t, h0, h5 with
  | 1, _, _ | 2, _, _ | 3, _, _ | 4, _, _ => decide
  | n + 5, _, h => omega
theorem wCons_fs {t : Nat} {q : ByteArray × List Nat} (h : q ∈ wCons t) : q.2.length ≤ 2 ∧ (∀ u ∈ q.2, u < 5) ∧ 0 < t ∧ t < 5 := by
  match t with
  | 0 => simp [wCons] at h
  | 1 | 2 | 3 | 4 => simp [wCons] at h; rcases h with rfl | rfl | rfl <;> decide
  | n + 5 => simp [wCons] at h

theorem pat_con {l : List Int} {a t d n : Nat} {P : Nat → Nat → Pt} {N : Nat → Nat → Nat} (ha : a + (1 + 2 * cap d) < 4611686018427387904) (h0 : 0 < t) (h5 : t < 5)
    (hpick : ACall Tryd.prog n_fugueref14_pick [.sl (eIs l), .lit (.int .i64 (a : Nat))] (.lit (.int .i64 (n : Nat)))) (hn : n < 9223372036854775808) (hn0 : ¬ n % 5 = 0) (hn1 : ¬ n % 5 = 1) (hd : d < 1000)
    (hP : ∀ a t, a + cap d < 4611686018427387904 → t < 5 → ACall Tryd.prog n_fugueref14_Pattern [.sl (eIs l), .lit (.int .i64 (a : Nat)), .lit (.int .i64 (t : Nat)), .lit (.int .i64 (d : Nat))] (.tup [ePt (P a t), .lit (.int .i64 (N a t : Nat))]))
    (hF : ∀ a t, a + cap d < 4611686018427387904 → t < 5 → TyP t (P a t) ∧ N a t ≤ a + cap d ∧ (P a t).sz ≤ cap d) {k : Nat} (hk : k = n / 5 % (wCons t).length) (hkl : k < (wCons t).length) :
    ACall Tryd.prog n_fugueref14_Pattern [.sl (eIs l), .lit (.int .i64 (a : Nat)), .lit (.int .i64 (t : Nat)), .lit (.int .i64 ((d + 1 : Nat) : Int))]
      (.tup [ePt (.mk 4 0 (wCons t)[k].1 (wTy t) (tsOf t) (stp P N (wCons t)[k].2 (a + 1)).1), .lit (.int .i64 ((stp P N (wCons t)[k].2 (a + 1)).2 : Nat))]) := by
  have hw := worldType_ok t h5
  have hwf := worldFields_ok t ⟨h0, h5⟩
  have m5 : ((n : Int).tmod 5) = ((n % 5 : Nat) : Int) := rfl
  have w5 : IntKind.i64.wrap ((n : Int).tdiv 5) = ((n / 5 : Nat) : Int) := by rw [show ((n : Int).tdiv 5) = ((n / 5 : Nat) : Int) by simp]; exact wrap_nat (by omega)
  have hl1 : (eSs ((wCons t).map (·.1))).length = (wCons t).length := by simp [eSs]
  have e14 : (IntKind.i64.wrap ((n : Int).tdiv 5)).tmod ((eSs ((wCons t).map (·.1))).length : Nat) = (k : Int) := by
    rw [w5, hl1, hk]; rfl
  have wd : IntKind.i64.wrap (((d + 1 : Nat) : Int) - 1) = (d : Int) := wrap_pred (by omega)
  have hlen := wCons_len h0 h5
  have hfs := wCons_fs (List.getElem_mem hkl)
  have hnm : (eSs ((wCons t).map (·.1)))[((IntKind.i64.wrap ((n : Int).tdiv 5)).tmod ((eSs ((wCons t).map (·.1))).length : Nat)).toNat]? = some (.lit (.string (wCons t)[k].1)) := by
    rw [e14]; simp [eSs, hkl]
  have hfi : (eFs (wCons t))[k]? = some (.sl (eIs ((wCons t)[k].2.map Int.ofNat))) := by simp [eFs, hkl]
  generalize hq : (wCons t)[k] = q at *
  obtain ⟨nm, fs⟩ := q
  simp only at hfs hnm hfi ⊢
  refine acall_of_wc ttok mixed Tryd.func24 rfl (by rfl) (Nat.le_of_ble_eq_true rfl) (by kernel_rfl) ?_
  refine .inl ⟨_, hpick, .inl ⟨_, hw, ?_⟩⟩
  refine ⟨by decide, ?_⟩
  refine ⟨fun h => ?_, fun h => by simp at h; omega⟩
  refine ⟨fun h => by simp at h; omega, fun h => ?_⟩
  refine ⟨by decide, ⟨fun h => by simp at h; omega, fun _ => ?_⟩⟩
  refine ⟨fun h => by simp at h; omega, fun _ => ?_⟩
  refine .inl ⟨_, hwf, ?_⟩
  refine ⟨by decide, by rw [hl1]; omega, ?_⟩
  refine ⟨_, by rw [e14]; omega, hnm, rfl, ?_⟩
  have hw0 := worldType_ok 0 (by decide)
  have hw1 := worldType_ok 1 (by decide)
  obtain ⟨ts, hts⟩ : ∃ ts, ts = tsOf t := ⟨_, rfl⟩
  have stT : ∀ i, (stp P N (fs.take i) (a + 1)).1.length ≤ 2 ∧ (stp P N (fs.take i) (a + 1)).2 ≤ a + 1 + i * cap d := fun i => by
    have hm : (fs.take i).length ≤ i := List.length_take_le _ _
    have hm2 : (fs.take i).length * cap d ≤ i * cap d := Nat.mul_le_mul_right _ hm
    have hm3 : (fs.take i).length * cap d ≤ 2 * cap d := Nat.mul_le_mul_right _ (by simp; omega)
    obtain ⟨s1, _, s2, _⟩ := stp_facts hF (fs.take i) (a + 1) (fun u hu => hfs.2.1 u (List.mem_of_mem_take hu)) (by omega)
    exact ⟨by rw [s1]; simp; omega, by omega⟩
  have inv : ∀ (F : (α : Type) → (α → Fr) → (α → Nat) → α → Prop), F {i : Nat // i ≤ fs.length} (fun i => { vs := [(0, .v (.sl (eIs l))), (1, .v (.lit (.int .i64 ((stp P N (fs.take i.1) (a + 1)).2 : Nat)))), (3, .v (.lit (.int .i64 ((d + 1 : Nat) : Int)))), (8, .box 0 (ePt (.mk 0 0 .empty .no [] []))),
      (11, .box 0 (aPt 4 0 nm (ePts (stp P N (fs.take i.1) (a + 1)).1) (wTy t) ts)), (13, .v (.sl (eFs (wCons t)))), (14, .v (.lit (.int .i64 (k : Nat)))), (15, .v (.lit (.int .i64 (i.1 : Nat))))], ow := [(11, 4, 11)] })
    (fun i => fs.length - i.1) ⟨0, Nat.zero_le _⟩ → ∃ α I μ y, F α I μ y := fun F h => ⟨_, _, _, _, h⟩
  have lenF : (eIs (fs.map Int.ofNat)).length = fs.length := by simp [eIs]
  by_cases h2 : t = 2
  · have e : ts = [wTy 0] := by rw [hts, h2]; rfl
    refine ⟨fun _ => .inl ⟨_, hw0, ?_⟩, fun h => by simp at h; omega⟩
    refine ⟨fun h => by simp at h; omega, fun _ => ?_⟩
    refine inv _ ⟨⟨⟨rfl, congrArg (fun l => SV.v (AV.lit (Value.int .i64 l))) (wrap_succ (k := a) (by omega)), rfl, rfl, by rw [e]; exact rfl, rfl, congrArg (fun l => SV.v (AV.lit (Value.int .i64 l))) e14, rfl, trivial⟩, ⟨trivial, trivial⟩, rfl⟩, ?_⟩
    rintro ⟨i, hi⟩
    refine ⟨_, by omega, hfi, rfl, ?_⟩
    refine ⟨fun h => ?_, fun h => ?_⟩
    · have h : i < fs.length := by simp [lenF] at h; omega
      have st2 := stT i
      have hib : i * cap d + cap d ≤ 2 * cap d := by have : (i + 1) * cap d ≤ 2 * cap d := Nat.mul_le_mul_right _ (by omega); rw [Nat.add_mul, Nat.one_mul] at this; exact this
      have hc := hP (stp P N (fs.take i) (a + 1)).2 fs[i] (by omega) (hfs.2.1 _ (List.getElem_mem h))
      rw [← wd] at hc
      refine ⟨_, by omega, hfi, rfl, ?_⟩
      refine ⟨.lit (.int .i64 (fs[i] : Nat)), by omega, by simp [eIs, h], rfl, ?_⟩
      refine .inl ⟨_, hc, ?_⟩
      refine ⟨by rw [lenP]; simp; omega, uniP _, uniMap (f := ePt) (fun _ => rfl) [_], ?_⟩
      have hs := stp_snoc (P := P) (N := N) fs[i] (fs.take i) (a + 1)
      rw [← List.take_succ_eq_append_getElem h] at hs
      refine ⟨⟨i + 1, h⟩, by simp; omega, ⟨rfl, ?_, rfl, rfl, ?_, rfl, rfl, ?_, trivial⟩, ⟨rfl, trivial⟩, rfl⟩
      · show _ = SV.v (AV.lit (Value.int .i64 ((stp P N (fs.take (i + 1)) (a + 1)).2 : Nat)))
        rw [hs]; rfl
      · show _ = SV.box _ (aPt 4 0 nm (ePts (stp P N (fs.take (i + 1)) (a + 1)).1) (wTy t) ts)
        rw [hs, show ePts ((stp P N (fs.take i) (a + 1)).1 ++ [P (stp P N (fs.take i) (a + 1)).2 fs[i]]) = ePts (stp P N (fs.take i) (a + 1)).1 ++ [ePt (P (stp P N (fs.take i) (a + 1)).2 fs[i])] by simp [ePts]]
        rfl
      · exact congrArg (fun l => SV.v (AV.lit (Value.int .i64 l))) (wrap_succ (k := i) (by omega))
    · have h : i = fs.length := by simp [lenF] at h; omega
      subst h
      show AV.tup [aPt 4 0 nm (ePts (stp P N (fs.take fs.length) (a + 1)).1) (wTy t) ts, .lit (.int .i64 ((stp P N (fs.take fs.length) (a + 1)).2 : Nat))] = _
      rw [List.take_length, aPt_eq, hts]
  by_cases h4 : t = 4
  · have e : ts = [wTy 1] := by rw [hts, h4]; rfl
    refine ⟨fun h => by simp at h; omega, fun _ => ?_⟩
    refine ⟨fun _ => .inl ⟨_, hw1, ?_⟩, fun h => by simp at h; omega⟩
    refine inv _ ⟨⟨⟨rfl, congrArg (fun l => SV.v (AV.lit (Value.int .i64 l))) (wrap_succ (k := a) (by omega)), rfl, rfl, by rw [e]; exact rfl, rfl, congrArg (fun l => SV.v (AV.lit (Value.int .i64 l))) e14, rfl, trivial⟩, ⟨trivial, trivial⟩, rfl⟩, ?_⟩
    rintro ⟨i, hi⟩
    refine ⟨_, by omega, hfi, rfl, ?_⟩
    refine ⟨fun h => ?_, fun h => ?_⟩
    · have h : i < fs.length := by simp [lenF] at h; omega
      have st2 := stT i
      have hib : i * cap d + cap d ≤ 2 * cap d := by have : (i + 1) * cap d ≤ 2 * cap d := Nat.mul_le_mul_right _ (by omega); rw [Nat.add_mul, Nat.one_mul] at this; exact this
      have hc := hP (stp P N (fs.take i) (a + 1)).2 fs[i] (by omega) (hfs.2.1 _ (List.getElem_mem h))
      rw [← wd] at hc
      refine ⟨_, by omega, hfi, rfl, ?_⟩
      refine ⟨.lit (.int .i64 (fs[i] : Nat)), by omega, by simp [eIs, h], rfl, ?_⟩
      refine .inl ⟨_, hc, ?_⟩
      refine ⟨by rw [lenP]; simp; omega, uniP _, uniMap (f := ePt) (fun _ => rfl) [_], ?_⟩
      have hs := stp_snoc (P := P) (N := N) fs[i] (fs.take i) (a + 1)
      rw [← List.take_succ_eq_append_getElem h] at hs
      refine ⟨⟨i + 1, h⟩, by simp; omega, ⟨rfl, ?_, rfl, rfl, ?_, rfl, rfl, ?_, trivial⟩, ⟨rfl, trivial⟩, rfl⟩
      · show _ = SV.v (AV.lit (Value.int .i64 ((stp P N (fs.take (i + 1)) (a + 1)).2 : Nat)))
        rw [hs]; rfl
      · show _ = SV.box _ (aPt 4 0 nm (ePts (stp P N (fs.take (i + 1)) (a + 1)).1) (wTy t) ts)
        rw [hs, show ePts ((stp P N (fs.take i) (a + 1)).1 ++ [P (stp P N (fs.take i) (a + 1)).2 fs[i]]) = ePts (stp P N (fs.take i) (a + 1)).1 ++ [ePt (P (stp P N (fs.take i) (a + 1)).2 fs[i])] by simp [ePts]]
        rfl
      · exact congrArg (fun l => SV.v (AV.lit (Value.int .i64 l))) (wrap_succ (k := i) (by omega))
    · have h : i = fs.length := by simp [lenF] at h; omega
      subst h
      show AV.tup [aPt 4 0 nm (ePts (stp P N (fs.take fs.length) (a + 1)).1) (wTy t) ts, .lit (.int .i64 ((stp P N (fs.take fs.length) (a + 1)).2 : Nat))] = _
      rw [List.take_length, aPt_eq, hts]
  · have e : ts = [] := by rw [hts]; simp [tsOf, h2, h4]
    refine ⟨fun h => by simp at h; omega, fun _ => ?_⟩
    refine ⟨fun h => by simp at h; omega, fun _ => ?_⟩
    refine inv _ ⟨⟨⟨rfl, congrArg (fun l => SV.v (AV.lit (Value.int .i64 l))) (wrap_succ (k := a) (by omega)), rfl, rfl, by rw [e]; exact rfl, rfl, congrArg (fun l => SV.v (AV.lit (Value.int .i64 l))) e14, rfl, trivial⟩, ⟨trivial, trivial⟩, rfl⟩, ?_⟩
    rintro ⟨i, hi⟩
    refine ⟨_, by omega, hfi, rfl, ?_⟩
    refine ⟨fun h => ?_, fun h => ?_⟩
    · have h : i < fs.length := by simp [lenF] at h; omega
      have st2 := stT i
      have hib : i * cap d + cap d ≤ 2 * cap d := by have : (i + 1) * cap d ≤ 2 * cap d := Nat.mul_le_mul_right _ (by omega); rw [Nat.add_mul, Nat.one_mul] at this; exact this
      have hc := hP (stp P N (fs.take i) (a + 1)).2 fs[i] (by omega) (hfs.2.1 _ (List.getElem_mem h))
      rw [← wd] at hc
      refine ⟨_, by omega, hfi, rfl, ?_⟩
      refine ⟨.lit (.int .i64 (fs[i] : Nat)), by omega, by simp [eIs, h], rfl, ?_⟩
      refine .inl ⟨_, hc, ?_⟩
      refine ⟨by rw [lenP]; simp; omega, uniP _, uniMap (f := ePt) (fun _ => rfl) [_], ?_⟩
      have hs := stp_snoc (P := P) (N := N) fs[i] (fs.take i) (a + 1)
      rw [← List.take_succ_eq_append_getElem h] at hs
      refine ⟨⟨i + 1, h⟩, by simp; omega, ⟨rfl, ?_, rfl, rfl, ?_, rfl, rfl, ?_, trivial⟩, ⟨rfl, trivial⟩, rfl⟩
      · show _ = SV.v (AV.lit (Value.int .i64 ((stp P N (fs.take (i + 1)) (a + 1)).2 : Nat)))
        rw [hs]; rfl
      · show _ = SV.box _ (aPt 4 0 nm (ePts (stp P N (fs.take (i + 1)) (a + 1)).1) (wTy t) ts)
        rw [hs, show ePts ((stp P N (fs.take i) (a + 1)).1 ++ [P (stp P N (fs.take i) (a + 1)).2 fs[i]]) = ePts (stp P N (fs.take i) (a + 1)).1 ++ [ePt (P (stp P N (fs.take i) (a + 1)).2 fs[i])] by simp [ePts]]
        rfl
      · exact congrArg (fun l => SV.v (AV.lit (Value.int .i64 l))) (wrap_succ (k := i) (by omega))
    · have h : i = fs.length := by simp [lenF] at h; omega
      subst h
      show AV.tup [aPt 4 0 nm (ePts (stp P N (fs.take fs.length) (a + 1)).1) (wTy t) ts, .lit (.int .i64 ((stp P N (fs.take fs.length) (a + 1)).2 : Nat))] = _
      rw [List.take_length, aPt_eq, hts]
end Go.Proofs.YtefdahofpjmnfaaDoor

namespace Go.Proofs.YtefdahofpjmnfaaDoor
open Go Fp
set_option maxRecDepth 10000
set_option maxHeartbeats 8000000

theorem pattern_ok {l : List Int} (hr : ∀ x ∈ l, InR x) : ∀ (d : Nat), d ≤ 3 → ∀ (a t : Nat), a + cap d < 4611686018427387904 → t < 5 →
    ∃ p nx, ACall Tryd.prog n_fugueref14_Pattern [.sl (eIs l), .lit (.int .i64 (a : Nat)), .lit (.int .i64 (t : Nat)), .lit (.int .i64 (d : Nat))] (.tup [ePt p, .lit (.int .i64 (nx : Nat))]) ∧ TyP t p ∧ nx ≤ a + cap d ∧ p.sz ≤ cap d := by
  have c1 : ∀ d, 1 ≤ cap d := fun d => by cases d <;> simp [cap]
  have base : ∀ (d a t n : Nat), a + cap d < 4611686018427387904 → t < 5 → n < 9223372036854775808 → ACall Tryd.prog n_fugueref14_pick [.sl (eIs l), .lit (.int .i64 (a : Nat))] (.lit (.int .i64 (n : Nat))) →
      (n % 5 = 0 ∨ n % 5 = 1 ∨ t = 0 ∨ d = 0) → ∃ p nx, ACall Tryd.prog n_fugueref14_Pattern [.sl (eIs l), .lit (.int .i64 (a : Nat)), .lit (.int .i64 (t : Nat)), .lit (.int .i64 (d : Nat))] (.tup [ePt p, .lit (.int .i64 (nx : Nat))]) ∧ TyP t p ∧ nx ≤ a + cap d ∧ p.sz ≤ cap d := by
    intro d a t n ha ht hn hp hc
    have := c1 d
    by_cases h0 : n % 5 = 0 ∨ d = 0 ∧ 0 < t
    · exact ⟨_, _, pat_wild (by omega) ht hp h0, .any _ _ (.inl rfl) rfl (fun h => by cases h), by omega, by simp [Pt.sz, szL]; omega⟩
    by_cases h1 : n % 5 = 1
    · obtain ⟨s, hs, hq⟩ := pat_var (by omega) ht hp h0 h1
      exact ⟨_, _, hq, .any _ _ (.inr rfl) rfl (fun _ => ⟨hs, rfl⟩), by omega, by simp [Pt.sz, szL]; omega⟩
    have ht0 : t = 0 := by omega
    subst ht0
    exact ⟨_, _, pat_int (by omega) hp hn (by omega) h1, .int _ rfl rfl ⟨by simp [Pt.n]; omega, by simp [Pt.n]; omega⟩, by omega, by simp [Pt.sz, szL]; omega⟩
  intro d
  induction d with
  | zero =>
    intro _ a t ha ht
    obtain ⟨n, hn, hp⟩ := pick14_ok (l := l) (k := a) hr
    exact base 0 a t n ha ht hn hp (.inr (.inr (.inr rfl)))
  | succ d ih =>
    intro hd a t ha ht
    obtain ⟨n, hn, hp⟩ := pick14_ok (l := l) (k := a) hr
    by_cases hb : n % 5 = 0 ∨ n % 5 = 1 ∨ t = 0
    · exact base (d + 1) a t n ha ht hn hp (by omega)
    have h0 : 0 < t := by omega
    have ih' := ih (by omega)
    have hlen := wCons_len h0 ht
    have hk : n / 5 % (wCons t).length < (wCons t).length := Nat.mod_lt _ hlen.1
    let P : Nat → Nat → Pt := fun a t => if h : a + cap d < 4611686018427387904 ∧ t < 5 then (ih' a t h.1 h.2).choose else wildP
    let N : Nat → Nat → Nat := fun a t => if h : a + cap d < 4611686018427387904 ∧ t < 5 then (ih' a t h.1 h.2).choose_spec.choose else 0
    have hPN : ∀ a t, a + cap d < 4611686018427387904 → t < 5 → ACall Tryd.prog n_fugueref14_Pattern [.sl (eIs l), .lit (.int .i64 (a : Nat)), .lit (.int .i64 (t : Nat)), .lit (.int .i64 (d : Nat))] (.tup [ePt (P a t), .lit (.int .i64 (N a t : Nat))]) ∧ TyP t (P a t) ∧ N a t ≤ a + cap d ∧ (P a t).sz ≤ cap d := fun a t h1 h2 => by
      have := (ih' a t h1 h2).choose_spec.choose_spec
      simp only [P, N, dif_pos (show a + cap d < 4611686018427387904 ∧ t < 5 from ⟨h1, h2⟩)]
      exact this
    have hc := pat_con (P := P) (N := N) (d := d) (by simpa [cap] using ha) h0 ht hp hn (by omega) (by omega) (by omega) (fun a t h1 h2 => (hPN a t h1 h2).1) (fun a t h1 h2 => (hPN a t h1 h2).2) rfl hk
    have hfs := wCons_fs (List.getElem_mem hk)
    have hm2 : (wCons t)[n / 5 % (wCons t).length].2.length * cap d ≤ 2 * cap d := Nat.mul_le_mul_right _ hfs.1
    obtain ⟨s1, s2, s3, s4⟩ := stp_facts (P := P) (N := N) (c := cap d) (fun a t h1 h2 => (hPN a t h1 h2).2) (wCons t)[n / 5 % (wCons t).length].2 (a + 1) hfs.2.1 (by simp [cap] at ha; omega)
    refine ⟨_, _, hc, .con t _ _ rfl (List.getElem_mem hk) s1 s2, by simp only [cap]; omega, by simp only [Pt.sz, cap]; omega⟩

theorem stp_each {P : Nat → Nat → Pt} {N : Nat → Nat → Nat} (h : ∀ a t, a + 15 < 4611686018427387904 → t < 5 → N a t ≤ a + 15 ∧ (P a t).sz ≤ 15) : ∀ (fs : List Nat) (a : Nat), (∀ u ∈ fs, u < 5) → a + fs.length * 15 < 4611686018427387904 → ∀ p ∈ (stp P N fs a).1, p.sz ≤ 15
  | [], a, _, _, p, hp => by simp [stp] at hp
  | v :: fs, a, h5, hb, p, hp => by
    obtain ⟨h2, h3⟩ := h a v (by simp at hb; omega) (h5 v (by simp))
    rcases List.mem_cons.1 hp with rfl | hp
    · exact h3
    · exact stp_each h fs (N a v) (fun u hu => h5 u (by simp [hu])) (by simp at hb; omega) p hp

/-- Up to five patterns of a type. -/
theorem pats_ok {l : List Int} (hr : ∀ x ∈ l, InR x) (hl : l.length < 9223372036854775808) : ∃ ps t, ACall Tryd.prog n_fugueref20_Pats [.sl (eIs l)] (.tup [.sl (ePts ps), .lit (.int .i64 (t : Nat))]) ∧ t < 5 ∧ ps.length ≤ 5 ∧ ∀ p ∈ ps, TyP t p ∧ p.sz ≤ 15 := by
  have hr' : ∀ x ∈ l.take 40, InR x := fun x hx => hr x (List.mem_of_mem_take hx)
  obtain ⟨n, hn, hp⟩ := pick20_ok (l := l.take 40) (k := 0) hr'
  have pat := pattern_ok hr' 3 (by decide)
  let P : Nat → Nat → Pt := fun a t => if h : a + cap 3 < 4611686018427387904 ∧ t < 5 then (pat a t h.1 h.2).choose else wildP
  let N : Nat → Nat → Nat := fun a t => if h : a + cap 3 < 4611686018427387904 ∧ t < 5 then (pat a t h.1 h.2).choose_spec.choose else 0
  have hPN : ∀ a t, a + cap 3 < 4611686018427387904 → t < 5 → ACall Tryd.prog n_fugueref14_Pattern [.sl (eIs (l.take 40)), .lit (.int .i64 (a : Nat)), .lit (.int .i64 (t : Nat)), .lit (.int .i64 (3 : Nat))] (.tup [ePt (P a t), .lit (.int .i64 (N a t : Nat))]) ∧ TyP t (P a t) ∧ N a t ≤ a + cap 3 ∧ (P a t).sz ≤ cap 3 := fun a t h1 h2 => by
    have := (pat a t h1 h2).choose_spec.choose_spec
    simp only [P, N, dif_pos (show a + cap 3 < 4611686018427387904 ∧ t < 5 from ⟨h1, h2⟩)]
    exact this
  have c3 : cap 3 = 15 := rfl
  obtain ⟨t, ht⟩ : ∃ t, t = n % 5 := ⟨_, rfl⟩
  obtain ⟨m, hm⟩ : ∃ m, m = n / 5 % 6 := ⟨_, rfl⟩
  have facts := fun k => stp_facts (P := P) (N := N) (c := 15) (fun a t h1 h2 => (hPN a t h1 h2).2) (List.replicate k t) 1 (fun u hu => by rw [(List.mem_replicate.1 hu).2]; omega)
  refine ⟨(stp P N (List.replicate m t) 1).1, t, ?_, by omega, ?_, ?_⟩
  · have w5 : IntKind.i64.wrap ((n : Int).tdiv 5) = ((n / 5 : Nat) : Int) := by rw [show ((n : Int).tdiv 5) = ((n / 5 : Nat) : Int) by simp]; exact wrap_nat (by omega)
    have w6 : (IntKind.i64.wrap ((n : Int).tdiv 5)).tmod 6 = (m : Int) := by rw [w5, hm]; rfl
    have m5 : ((n : Int).tmod 5) = (t : Int) := by rw [ht]; rfl
    refine acall_of_wc ttok mixed Tryd.func6 rfl (by rfl) (Nat.le_of_ble_eq_true rfl) (by kernel_rfl) ?_
    have inv : ∀ (F : (α : Type) → (α → Fr) → (α → Nat) → α → Prop), F {i : Nat // i ≤ m} (fun i => { vs := [(0, .v (.sl (eIs (l.take 40)))), (4, .v (.lit (.int .i64 (t : Nat)))), (5, .v (.lit (.int .i64 ((stp P N (List.replicate i.1 t) 1).2 : Nat)))), (6, .v (.sl (ePts (stp P N (List.replicate i.1 t) 1).1))), (7, .v (.lit (.int .i64 (i.1 : Nat))))], ow := [(6, 0, 11)] })
      (fun i => m - i.1) ⟨0, Nat.zero_le _⟩ → ∃ α I μ y, F α I μ y := fun F h => ⟨_, _, _, _, h⟩
    have l0 : (0 : Int) = ((0 : Nat) : Int) := rfl
    refine ⟨fun h => ?_, fun h => ?_⟩
    · have h : 40 < l.length := by simp [eIs] at h; omega
      have hdr : List.drop (Int.toNat 0) (List.take (Int.toNat 40) (eIs l)) = eIs (l.take 40) := by simp [eIs]
      have hp' := hp
      rw [← hdr] at hp'
      refine ⟨by decide, by decide, by simp [eIs]; omega, .inl rfl, ?_⟩
      refine .inl ⟨_, hp', ?_⟩
      refine ⟨by decide, ?_⟩
      refine inv _ ⟨⟨⟨congrArg (fun l => SV.v (AV.sl l)) hdr, congrArg (fun l => SV.v (AV.lit (Value.int .i64 l))) m5, rfl, rfl, rfl, trivial⟩, ⟨trivial, trivial⟩, rfl⟩, ?_⟩
      rintro ⟨i, hi⟩
      refine .inl ⟨_, hp, ?_⟩
      refine ⟨by decide, by decide, ?_⟩
      refine ⟨fun h => ?_, fun h => ?_⟩
      · have h := of_decide_eq_true h; simp only at h
        rw [w6] at h
        have h : i < m := by omega
        have st := facts i (by simp; omega)
        have hb : (stp P N (List.replicate i t) 1).2 ≤ 1 + i * 15 := by simpa using st.2.2.1
        have hc := (hPN (stp P N (List.replicate i t) 1).2 t (by omega) (by omega)).1
        refine .inl ⟨_, hc, ?_⟩
        refine ⟨by rw [lenP, st.1]; simp; omega, uniP _, uniMap (f := ePt) (fun _ => rfl) [_], ?_⟩
        have hs := stp_snoc (P := P) (N := N) t (List.replicate i t) 1
        rw [← List.replicate_succ'] at hs
        refine ⟨⟨i + 1, h⟩, by simp; omega, ⟨rfl, rfl, ?_, ?_, ?_, trivial⟩, ⟨rfl, trivial⟩, rfl⟩
        · show _ = SV.v (AV.lit (Value.int .i64 ((stp P N (List.replicate (i + 1) t) 1).2 : Nat)))
          rw [hs]; rfl
        · show _ = SV.v (AV.sl (ePts (stp P N (List.replicate (i + 1) t) 1).1))
          rw [hs, show ePts ((stp P N (List.replicate i t) 1).1 ++ [P (stp P N (List.replicate i t) 1).2 t]) = ePts (stp P N (List.replicate i t) 1).1 ++ [ePt (P (stp P N (List.replicate i t) 1).2 t)] by simp [ePts]]
          rfl
        · exact congrArg (fun l => SV.v (AV.lit (Value.int .i64 l))) (wrap_succ (k := i) (by omega))
      · have h := of_decide_eq_false h; simp only at h
        rw [w6] at h
        have h : i = m := by omega
        subst h
        exact rfl
    · have h : ¬ 40 < l.length := by simp [eIs] at h; omega
      have hdr : l.take 40 = l := List.take_of_length_le (by omega)
      have hp' := hp
      rw [hdr] at hp'
      refine .inl ⟨_, hp', ?_⟩
      refine ⟨by decide, ?_⟩
      refine inv _ ⟨⟨⟨by rw [hdr]; exact rfl, congrArg (fun l => SV.v (AV.lit (Value.int .i64 l))) m5, rfl, rfl, rfl, trivial⟩, ⟨trivial, trivial⟩, rfl⟩, ?_⟩
      rintro ⟨i, hi⟩
      refine .inl ⟨_, hp, ?_⟩
      refine ⟨by decide, by decide, ?_⟩
      refine ⟨fun h => ?_, fun h => ?_⟩
      · have h := of_decide_eq_true h; simp only at h
        rw [w6] at h
        have h : i < m := by omega
        have st := facts i (by simp; omega)
        have hb : (stp P N (List.replicate i t) 1).2 ≤ 1 + i * 15 := by simpa using st.2.2.1
        have hc := (hPN (stp P N (List.replicate i t) 1).2 t (by omega) (by omega)).1
        refine .inl ⟨_, hc, ?_⟩
        refine ⟨by rw [lenP, st.1]; simp; omega, uniP _, uniMap (f := ePt) (fun _ => rfl) [_], ?_⟩
        have hs := stp_snoc (P := P) (N := N) t (List.replicate i t) 1
        rw [← List.replicate_succ'] at hs
        refine ⟨⟨i + 1, h⟩, by simp; omega, ⟨rfl, rfl, ?_, ?_, ?_, trivial⟩, ⟨rfl, trivial⟩, rfl⟩
        · show _ = SV.v (AV.lit (Value.int .i64 ((stp P N (List.replicate (i + 1) t) 1).2 : Nat)))
          rw [hs]; rfl
        · show _ = SV.v (AV.sl (ePts (stp P N (List.replicate (i + 1) t) 1).1))
          rw [hs, show ePts ((stp P N (List.replicate i t) 1).1 ++ [P (stp P N (List.replicate i t) 1).2 t]) = ePts (stp P N (List.replicate i t) 1).1 ++ [ePt (P (stp P N (List.replicate i t) 1).2 t)] by simp [ePts]]
          rfl
        · exact congrArg (fun l => SV.v (AV.lit (Value.int .i64 l))) (wrap_succ (k := i) (by omega))
      · have h := of_decide_eq_false h; simp only at h
        rw [w6] at h
        have h : i = m := by omega
        subst h
        exact rfl
  · have := facts m (by simp; omega)
    rw [this.1]; simp; omega
  · intro p hp
    have := facts m (by simp; omega)
    obtain ⟨i, hi⟩ := List.getElem?_of_mem hp
    have hlt := (List.getElem?_eq_some_iff.1 hi).1
    rw [this.1] at hlt
    have h2 := this.2.1 i p t hi (by rw [List.getElem?_replicate, if_pos (by simpa using hlt)])
    refine ⟨h2, ?_⟩
    exact stp_each (fun a t h1 h2 => ⟨(hPN a t h1 h2).2.2.1, (hPN a t h1 h2).2.2.2⟩) _ 1 (fun u hu => by rw [(List.mem_replicate.1 hu).2]; omega) (by simp; omega) p hp
end Go.Proofs.YtefdahofpjmnfaaDoor
