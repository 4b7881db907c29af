/- Patterns as trees, and how they lie in memory; small facts. No condition. -/
import Derived.Test.YtefdahofpjmnfaaS1
import Derived.Test.YtefdahofpjmnfaaFpE
set_option linter.unusedSimpArgs false
set_option linter.unusedVariables false
namespace Go.Proofs.Ytefdahofpjmnfaa
open Go Fp
set_option maxRecDepth 10000

theorem getT {l : List Tp} {k : Nat} (h : k < l.length) : (eTys l)[k]? = some (eTy l[k]) := by
  simp [eTys, h]
theorem uniT (l : List Tp) : Uni 4 (eTys l) := fun a ha => by
  obtain ⟨x, _, rfl⟩ := List.mem_map.1 ha; rfl
theorem takeT {l : List Tp} {k : Nat} (h : k < l.length) : eTys (l.take k) ++ [eTy l[k]] = eTys (l.take (k + 1)) := by
  rw [List.take_succ_eq_append_getElem h]; unfold eTys; rw [List.map_append]; rfl
theorem wrap_nat {n : Nat} (h : n < 9223372036854775808) : IntKind.i64.wrap (n : Int) = n := by
  simp [IntKind.wrap, IntKind.signed, IntKind.bits, Int.bmod]; omega
theorem wrap_succ {k : Nat} (h : k + 1 < 9223372036854775808) : IntKind.i64.wrap ((k : Int) + 1) = ((k + 1 : Nat) : Int) := by
  have := wrap_nat h; simpa using this
theorem wrap_pred {k : Nat} (h : k + 1 < 9223372036854775808) : IntKind.i64.wrap (((k + 1 : Nat) : Int) - 1) = (k : Int) := by
  rw [show (((k + 1 : Nat) : Int) - 1) = (k : Int) by omega]; exact wrap_nat (by omega)
theorem wrap_in {n : Int} (h : InR n) : IntKind.i64.wrap n = n := by
  unfold InR at h
  simp [IntKind.wrap, IntKind.signed, IntKind.bits]; omega
theorem getI {l : List Int} {k : Nat} (h : k < l.length) : (eIs l)[k]? = some (.lit (.int .i64 l[k])) := by simp [eIs, h]
theorem getS {l : List ByteArray} {k : Nat} (h : k < l.length) : (eSs l)[k]? = some (.lit (.string l[k])) := by simp [eSs, h]
theorem uniI (l : List Int) : Uni 1 (eIs l) := fun a ha => by obtain ⟨x, _, rfl⟩ := List.mem_map.1 ha; rfl
theorem uniS (l : List ByteArray) : Uni 1 (eSs l) := fun a ha => by obtain ⟨x, _, rfl⟩ := List.mem_map.1 ha; rfl
theorem uni1 {x : AV} {n : Nat} (h : x.cells.length = n) : Uni n [x] := fun a ha => by simp at ha; subst ha; exact h
theorem uni0 (n : Nat) : Uni n [] := fun a ha => by simp at ha
theorem uniApp {n : Nat} {l m : List AV} (h : Uni n l) (k : Uni n m) : Uni n (l ++ m) := fun a ha => by
  rcases List.mem_append.1 ha with ha | ha
  · exact h a ha
  · exact k a ha
theorem uniMap {α : Type} {n : Nat} {f : α → AV} (h : ∀ x, (f x).cells.length = n) (l : List α) : Uni n (l.map f) := fun a ha => by obtain ⟨x, _, rfl⟩ := List.mem_map.1 ha; exact h x
theorem getM {α : Type} {f : α → AV} {l : List α} {k : Nat} (h : k < l.length) : (l.map f)[k]? = some (f l[k]) := by simp [h]
theorem takeM {α : Type} {f : α → AV} {l : List α} {k : Nat} (h : k < l.length) : (l.take k).map f ++ [f l[k]] = (l.take (k + 1)).map f := by
  rw [List.take_succ_eq_append_getElem h, List.map_append]; rfl

/-- A pattern: what it is, its number, its name, its type, its types, its parts. -/
inductive Pt where
  | mk (f n : Int) (s : ByteArray) (t : Tp) (ts : List Tp) (k : List Pt)

namespace Pt
def f : Pt → Int | mk f _ _ _ _ _ => f
def n : Pt → Int | mk _ n _ _ _ _ => n
def s : Pt → ByteArray | mk _ _ s _ _ _ => s
def t : Pt → Tp | mk _ _ _ t _ _ => t
def ts : Pt → List Tp | mk _ _ _ _ ts _ => ts
def k : Pt → List Pt | mk _ _ _ _ _ k => k
mutual
def eKids : Pt → List AV
  | mk _ _ _ _ _ k => eList k
def eList : List Pt → List AV
  | [] => []
  | p :: r => .agg [.lit (.int .i64 p.f), .lit (.int .i64 0), .lit (.int .i64 p.n), .lit (.string p.s), .sl p.eKids, .lit (.int .i64 p.t.form), .lit (.int .i64 p.t.num), .lit (.string p.t.nam), .sl p.t.eArgs, .sl (eTys p.ts)] :: eList r
end
end Pt
def ePt (p : Pt) : AV := .agg [.lit (.int .i64 p.f), .lit (.int .i64 0), .lit (.int .i64 p.n), .lit (.string p.s), .sl p.eKids, .lit (.int .i64 p.t.form), .lit (.int .i64 p.t.num), .lit (.string p.t.nam), .sl p.t.eArgs, .sl (eTys p.ts)]
def ePts (l : List Pt) : List AV := l.map ePt
theorem Pt.eList_eq : ∀ l : List Pt, Pt.eList l = ePts l
  | [] => by simp [Pt.eList, ePts]
  | p :: r => by simp [Pt.eList, ePts, ePt, Pt.eList_eq r]
theorem Pt.eKids_eq (p : Pt) : p.eKids = ePts p.k := by cases p; simp [Pt.eKids, Pt.eList_eq, Pt.k]
theorem uniP (l : List Pt) : Uni 10 (ePts l) := uniMap (f := ePt) (n := 10) (fun _ => rfl) l
theorem getP {l : List Pt} {k : Nat} (h : k < l.length) : (ePts l)[k]? = some (ePt l[k]) := getM h
theorem takeP {l : List Pt} {k : Nat} (h : k < l.length) : ePts (l.take k) ++ [ePt l[k]] = ePts (l.take (k + 1)) := takeM h
theorem lenP (l : List Pt) : (ePts l).length = l.length := by simp [ePts]

mutual
def Pt.nodes : Pt → Nat
  | .mk f _ _ _ _ k => (if f = 3 ∨ f = 4 then 1 else 0) + nodesL k
def nodesL : List Pt → Nat
  | [] => 0
  | p :: r => p.nodes + nodesL r
end
mutual
def Pt.sz : Pt → Nat
  | .mk _ _ _ _ _ k => 1 + szL k
def szL : List Pt → Nat
  | [] => 0
  | p :: r => p.sz + szL r
end
theorem sz_mem {x : Pt} : ∀ {l : List Pt}, x ∈ l → x.sz ≤ szL l
  | y :: r, h => by
    rcases List.mem_cons.1 h with rfl | h
    · simp [szL]
    · have := sz_mem h; simp [szL]; omega
theorem sz_kid {p x : Pt} (h : x ∈ p.k) : x.sz < p.sz := by
  cases p with
  | mk f n s t ts k => have := sz_mem (x := x) (l := k) h; simp [Pt.sz]; omega
theorem nodesL_mem {x : Pt} : ∀ {l : List Pt}, x ∈ l → x.nodes ≤ nodesL l
  | y :: r, h => by
    rcases List.mem_cons.1 h with rfl | h
    · simp [nodesL]
    · have := nodesL_mem h; simp [nodesL]; omega
theorem nodesL_app : ∀ l m : List Pt, nodesL (l ++ m) = nodesL l + nodesL m
  | [], m => by simp [nodesL]
  | p :: r, m => by simp [nodesL, nodesL_app r m]; omega
theorem szL_app : ∀ l m : List Pt, szL (l ++ m) = szL l + szL m
  | [], m => by simp [szL]
  | p :: r, m => by simp [szL, szL_app r m]; omega

def wildP : Pt := .mk 1 0 .empty .no [] []
def intP (n : Int) : Pt := .mk 3 n .empty .no [] []
def conP (s : ByteArray) (k : List Pt) : Pt := .mk 4 0 s .no [] k

/-! The world's types: 0 Int, 1 Bool, 2 L Int, 3 T, 4 L Bool. -/
abbrev sInt : ByteArray := ⟨#[73, 110, 116]⟩
abbrev sBool : ByteArray := ⟨#[66, 111, 111, 108]⟩
abbrev sL : ByteArray := ⟨#[76]⟩
abbrev sT : ByteArray := ⟨#[84]⟩
abbrev sFalse : ByteArray := ⟨#[70, 97, 108, 115, 101]⟩
abbrev sTrue : ByteArray := ⟨#[84, 114, 117, 101]⟩
abbrev sN : ByteArray := ⟨#[78]⟩
abbrev sC : ByteArray := ⟨#[67]⟩
abbrev sA : ByteArray := ⟨#[65]⟩
abbrev sB : ByteArray := ⟨#[66]⟩
abbrev sD : ByteArray := ⟨#[68]⟩
abbrev sa : ByteArray := ⟨#[97]⟩

def wTy : Nat → Tp
  | 0 => .con sInt
  | 1 => .con sBool
  | 2 => .app (.con sL) (.con sInt)
  | 3 => .con sT
  | _ => .app (.con sL) (.con sBool)
/-- The constructors of a type, and the types of their fields. -/
def wCons : Nat → List (ByteArray × List Nat)
  | 1 => [(sFalse, []), (sTrue, [])]
  | 2 => [(sN, []), (sC, [0, 2])]
  | 3 => [(sA, []), (sB, [0, 1]), (sD, [3])]
  | 4 => [(sN, []), (sC, [1, 4])]
  | _ => []
/-- A pattern is of a type. -/
inductive TyP : Nat → Pt → Prop
  | any (t : Nat) (p : Pt) (hf : p.f = 1 ∨ p.f = 2) (hk : p.k = []) (hv : p.f = 2 → p.s.size ≤ 4 ∧ p.t = wTy t) : TyP t p
  | int (p : Pt) (hf : p.f = 3) (hk : p.k = []) (hn : 0 ≤ p.n ∧ p.n < 1000) : TyP 0 p
  | con (t : Nat) (p : Pt) (fs : List Nat) (hf : p.f = 4) (hs : (p.s, fs) ∈ wCons t) (hl : p.k.length = fs.length) (hk : ∀ (i : Nat) (x : Pt) u, p.k[i]? = some x → fs[i]? = some u → TyP u x) : TyP t p
end Go.Proofs.Ytefdahofpjmnfaa
