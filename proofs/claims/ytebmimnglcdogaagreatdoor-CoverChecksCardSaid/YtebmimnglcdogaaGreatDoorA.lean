/- Patterns as trees, and how they lie in memory; small facts. No condition. -/
import Derived.Test.YtebmimnglcdogaaGreatDoorS1
import Derived.Test.YtebmimnglcdogaaGreatDoorFpE
set_option linter.unusedSimpArgs false
set_option linter.unusedVariables false
namespace Go.Proofs.YtebmimnglcdogaaGreatDoor
open Go Fp
set_option maxRecDepth 10000
theorem zNL {l:List Tp} {k:Nat} (h:k<l.length):(zQ l)[k]? = some (eTy l[k]):=by
 simp[zQ,h]
theorem zIY (l:List Tp):Uni 4 (zQ l):=fun a ha=>by
 obtain⟨x,_,rfl⟩:=List.mem_map.1 ha;rfl
theorem z2I {l:List Tp} {k:Nat} (h:k<l.length):zQ (l.take k)++[eTy l[k]]=zQ (l.take (k+1)):=by
 rw[List.take_succ_eq_append_getElem h];unfold zQ;rw[List.map_append];rfl
theorem yB {n:Nat} (h:n<9223372036854775808):IntKind.i64.wrap (n:Int)=n:=by
 simp[IntKind.wrap,IntKind.signed,IntKind.bits,Int.bmod];omega
theorem wrap_succ {k:Nat} (h:k+1<9223372036854775808):IntKind.i64.wrap ((k:Int)+1)=((k+1:Nat):Int):=by
 have:=yB h;simpa using this
theorem zGG {k:Nat} (h:k+1<9223372036854775808):IntKind.i64.wrap (((k+1:Nat):Int)-1)=(k:Int):=by
 rw[show (((k+1:Nat):Int)-1)=(k:Int) by omega];exact yB (by omega)
theorem wrap_in {n:Int} (h:InR n):IntKind.i64.wrap n=n:=by
 unfold InR at h;simp[IntKind.wrap,IntKind.signed,IntKind.bits];omega
theorem zVG {l:List Int} {k:Nat} (h:k<l.length):(eIs l)[k]? = some (.lit (.int .i64 l[k])):=by simp[eIs,h]
theorem zKW {l:List ByteArray} {k:Nat} (h:k<l.length):(eSs l)[k]? = some (.lit (.string l[k])):=by simp[eSs,h]
theorem z3K (l:List Int):Uni 1 (eIs l):=fun a ha=>by obtain⟨x,_,rfl⟩:=List.mem_map.1 ha;rfl
theorem jU (l:List ByteArray):Uni 1 (eSs l):=fun a ha=>by obtain⟨x,_,rfl⟩:=List.mem_map.1 ha;rfl
theorem zCV {x:AV} {n:Nat} (h:x.cells.length=n):Uni n [x]:=fun a ha=>by simp at ha;subst ha;exact h
theorem z5Z (n:Nat):Uni n []:=fun a ha=>by simp at ha
theorem zE3 {n:Nat} {l m:List AV} (h:Uni n l) (k:Uni n m):Uni n (l++m):=fun a ha=>by
 rcases List.mem_append.1 ha with ha|ha
 ·exact h a ha
 ·exact k a ha
theorem wW {α:Type} {n:Nat} {f:α->AV} (h:∀x,(f x).cells.length=n) (l:List α):Uni n (l.map f):=fun a ha=>by obtain⟨x,_,rfl⟩:=List.mem_map.1 ha;exact h x
theorem zD9 {α:Type} {f:α->AV} {l:List α} {k:Nat} (h:k<l.length):(l.map f)[k]? = some (f l[k]):=by simp[h]
inductive Pt where
 | mk (f n:Int) (s:ByteArray) (t:Tp) (ts:List Tp) (k:List Pt)
namespace Pt
def f:Pt->Int|mk f _ _ _ _ _=>f
def n:Pt->Int|mk _ n _ _ _ _=>n
def s:Pt->ByteArray|mk _ _ s _ _ _=>s
def t:Pt->Tp|mk _ _ _ t _ _=>t
def ts:Pt->List Tp|mk _ _ _ _ ts _=>ts
def k:Pt->List Pt|mk _ _ _ _ _ k=>k
mutual
def eKids:Pt->List AV
 | mk _ _ _ _ _ k=>eList k
def eList:List Pt->List AV
 | []=>[]
 | p::r => .agg [.lit (.int .i64 p.f),.lit (.int .i64 0),.lit (.int .i64 p.n),.lit (.string p.s),.sl p.eKids,.lit (.int .i64 p.t.form),.lit (.int .i64 p.t.num),.lit (.string p.t.nam),.sl p.t.eArgs,.sl (zQ p.ts)]::eList r
end
end Pt
def ePt (p:Pt):AV := .agg [.lit (.int .i64 p.f),.lit (.int .i64 0),.lit (.int .i64 p.n),.lit (.string p.s),.sl p.eKids,.lit (.int .i64 p.t.form),.lit (.int .i64 p.t.num),.lit (.string p.t.nam),.sl p.t.eArgs,.sl (zQ p.ts)]
def zM (l:List Pt):List AV:=l.map ePt
theorem Pt.eList_eq:∀l:List Pt,Pt.eList l=zM l
 | []=>by simp[Pt.eList,zM]
 | p::r=>by simp[Pt.eList,zM,ePt,Pt.eList_eq r]
theorem Pt.eKids_eq (p:Pt):p.eKids=zM p.k:=by cases p;simp[Pt.eKids,Pt.eList_eq,Pt.k]
theorem zJV (l:List Pt):Uni 10 (zM l):=wW (f:=ePt) (n:=10) (fun _=>rfl) l
theorem zEN {l:List Pt} {k:Nat} (h:k<l.length):(zM l)[k]? = some (ePt l[k]):=zD9 h
theorem zFU (l:List Pt):(zM l).length=l.length:=by simp[zM]
mutual
def Pt.nodes:Pt->Nat
 | .mk f _ _ _ _ k=>(if f=3∨f=4 then 1 else 0)+yT k
def yT:List Pt->Nat
 | []=>0
 | p::r=>p.nodes+yT r
end
mutual
def Pt.sz:Pt->Nat
 | .mk _ _ _ _ _ k=>1+szL k
def szL:List Pt->Nat
 | []=>0
 | p::r=>p.sz+szL r
end
theorem zX8 {x:Pt}:∀{l:List Pt},x∈l->x.sz<=szL l
 | y::r,h=>by
  rcases List.mem_cons.1 h with rfl|h
  ·simp[szL]
  ·have:=zX8 h;simp[szL];omega
theorem zYX {p x:Pt} (h:x∈p.k):x.sz<p.sz:=by
 cases p with
 | mk f n s t ts k=>have:=zX8 (x:=x) (l:=k) h;simp[Pt.sz];omega
theorem zAS:∀l m:List Pt,yT (l++m)=yT l+yT m
 | [],m=>by simp[yT]
 | p::r,m=>by simp[yT,zAS r m];omega
def wJ:Pt := .mk 1 0 .empty .no [] []
def zK2 (n:Int):Pt := .mk 3 n .empty .no [] []
def zI8 (s:ByteArray) (k:List Pt):Pt := .mk 4 0 s .no [] k
abbrev zKZ:ByteArray:=⟨#[73,110,116]⟩
abbrev zAW:ByteArray:=⟨#[66,111,111,108]⟩
abbrev sL:ByteArray:=⟨#[76]⟩
abbrev sT:ByteArray:=⟨#[84]⟩
abbrev zJ5:ByteArray:=⟨#[70,97,108,115,101]⟩
abbrev zO5:ByteArray:=⟨#[84,114,117,101]⟩
abbrev sN:ByteArray:=⟨#[78]⟩
abbrev sC:ByteArray:=⟨#[67]⟩
abbrev sA:ByteArray:=⟨#[65]⟩
abbrev sB:ByteArray:=⟨#[66]⟩
abbrev sD:ByteArray:=⟨#[68]⟩
abbrev sa:ByteArray:=⟨#[97]⟩
def wTy:Nat->Tp
 | 0 => .con zKZ
 | 1 => .con zAW
 | 2 => .app (.con sL) (.con zKZ)
 | 3 => .con sT
 | _ => .app (.con sL) (.con zAW)
def zO:Nat->List (ByteArray×List Nat)
 | 1=>[(zJ5,[]),(zO5,[])]
 | 2=>[(sN,[]),(sC,[0,2])]
 | 3=>[(sA,[]),(sB,[0,1]),(sD,[3])]
 | 4=>[(sN,[]),(sC,[1,4])]
 | _=>[]
inductive TyP:Nat->Pt->Prop
 | any (t:Nat) (p:Pt) (hf:p.f=1∨p.f=2) (hk:p.k=[]) (hv:p.f=2->p.s.size<=4/\p.t=wTy t):TyP t p
 | int (p:Pt) (hf:p.f=3) (hk:p.k=[]) (hn:0<=p.n/\p.n<1000):TyP 0 p
 | con (t:Nat) (p:Pt) (fs:List Nat) (hf:p.f=4) (hs:(p.s,fs)∈zO t) (hl:p.k.length=fs.length) (hk:∀(i:Nat) (x:Pt) u,p.k[i]? = some x->fs[i]? = some u->TyP u x):TyP t p
end Go.Proofs.YtebmimnglcdogaaGreatDoor
