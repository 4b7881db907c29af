/- Compiled cases, as a tree; copies of lists of names that are given; rows of any column. No condition. -/
import Derived.Test.YtebmimnglcdogaaGreatDoorE
set_option linter.unusedSimpArgs false
set_option linter.unusedVariables false
namespace Go.Proofs.YtebmimnglcdogaaGreatDoor
open Go Fp
set_option maxRecDepth 10000
set_option maxHeartbeats 16000000
set_option linter.unusedVariables false
abbrev Bd:=ByteArray×Tp×ByteArray
abbrev Hd:=Int×Int×ByteArray×List ByteArray
inductive Cr where
 | fail
 | leaf (bs:List Bd) (n:Int)
 | cas (v:ByteArray) (hs:List Hd) (ks:List Cr)
def z5E (s:ByteArray):AV := .agg [.lit (.int .i64 1),.lit (.int .i64 0),.lit (.string s),.lit (.int .i64 0),.lit (.int .i64 0),.lit (.string .empty),.sl [],.sl [],.sl [],.sl []]
namespace Cr
def f:Cr->Int|fail=>11|leaf [] _=>3|leaf _ _=>8|cas _ _ _=>9
def n:Cr->Int|leaf [] n=>n|_=>0
def t (to:Tp):Cr->Tp|fail=>to|leaf _ _ => .no|cas _ _ _=>to
def kids:Cr->List AV|leaf [] _=>[]|leaf _ n=>[eCi n]|cas v _ _=>[z5E v]|fail=>[]
def binds:Cr->List AV|leaf bs _=>eLs bs|_=>[]
mutual
def alts (to:Tp):Cr->List AV
 | cas _ hs ks=>altsL to hs ks
 | _=>[]
def altsL (to:Tp):List Hd->List Cr->List AV
 | h::hs,k::ks => .agg [.lit (.int .i64 h.1),.lit (.int .i64 h.2.1),.lit (.string h.2.2.1),.sl (eSs h.2.2.2),.lit (.int .i64 k.f),.lit (.int .i64 k.n),.lit (.string .empty),.lit (.int .i64 (k.t to).form),.lit (.int .i64 (k.t to).num),.lit (.string (k.t to).nam),.sl (k.t to).eArgs,.sl k.kids,.sl k.binds,.sl (k.alts to)]::altsL to hs ks
 | _,_=>[]
end
end Cr
def eCr (to:Tp) (k:Cr):AV := .agg [.lit (.int .i64 k.f),.lit (.int .i64 k.n),.lit (.string .empty),.lit (.int .i64 (k.t to).form),.lit (.int .i64 (k.t to).num),.lit (.string (k.t to).nam),.sl (k.t to).eArgs,.sl k.kids,.sl k.binds,.sl (k.alts to)]
def zIL (to:Tp) (h:Hd) (k:Cr):AV := .agg [.lit (.int .i64 h.1),.lit (.int .i64 h.2.1),.lit (.string h.2.2.1),.sl (eSs h.2.2.2),.lit (.int .i64 k.f),.lit (.int .i64 k.n),.lit (.string .empty),.lit (.int .i64 (k.t to).form),.lit (.int .i64 (k.t to).num),.lit (.string (k.t to).nam),.sl (k.t to).eArgs,.sl k.kids,.sl k.binds,.sl (k.alts to)]
theorem zA0 (to:Tp) (h:Hd) (hs:List Hd) (k:Cr) (ks:List Cr):Cr.altsL to (h::hs) (k::ks)=zIL to h k::Cr.altsL to hs ks:=by rw[Cr.altsL];rfl
theorem zHA (to:Tp):Cr.altsL to [] []=[]:=by rw[Cr.altsL];intros;simp_all
theorem zO0 (to:Tp) (v:ByteArray) (hs:List Hd) (ks:List Cr):(Cr.cas v hs ks).alts to=Cr.altsL to hs ks:=by rw[Cr.alts]
theorem zGP (to:Tp) {α:Type} (f:α->Hd) (g:α->Cr):∀l:List α,Cr.altsL to (l.map f) (l.map g)=l.map fun x=>zIL to (f x) (g x)
 | []=>zHA to
 | x::l=>by rw[List.map_cons,List.map_cons,zA0,zGP to f g l];rfl
theorem zME (to:Tp):∀(h1 h2:List Hd) (k1 k2:List Cr),h1.length=k1.length->Cr.altsL to (h1++h2) (k1++k2)=Cr.altsL to h1 k1++Cr.altsL to h2 k2
 | [],h2,[],k2,_=>by rw[zHA];rfl
 | h::h1,h2,k::k1,k2,hl=>by rw[List.cons_append,List.cons_append,zA0,zA0,zME to h1 h2 k1 k2 (by simpa using hl)];rfl
 | [],_,_::_,_,hl=>by simp at hl
 | _::_,_,[],_,hl=>by simp at hl
def wK (v:ByteArray) (i:Nat):ByteArray:=v++⟨#[64]⟩++dig i
def yE (v:ByteArray) (n:Nat):List ByteArray:=(List.range n).map (wK v)
def ownB (ps:List Pt) (ns:List ByteArray):List Bd:=(ps.zip ns).filterMap fun q=>if q.1.f=2 then some (q.1.s,q.1.t,q.2) else none
def zEW (ps:List Pt):Option Nat:=ps.findIdx? fun p => !p.opn
def made (b:Nat->Int):Nat->List Rw->List ByteArray->Cr
 | 0,_,_ => .fail
 | _+1,[],_ => .fail
 | n+1,r::l,ns=>match zEW r.ps with
  | none => .leaf (r.lost++ownB r.ps ns) (b r.body)
  | some a=>match r.ps[a]?,ns[a]? with
   | some p,some v=>if p.f=4 then match jK a (r::l) with
     | some cs => .cas v (cs.map fun q=>(1,0,q.1,yE v q.2.length)) (cs.map fun q=>made b n (parts (.con q.1 q.2.length) a v (r::l)) (xJ ns a (yE v q.2.length)))
     | none => .cas v [] []
    else .cas v ((intsOf a (r::l)).map (fun x=>(2,x,.empty,[]))++[(3,0,.empty,[])])
     ((intsOf a (r::l)).map (fun x=>made b n (parts (.int x) a v (r::l)) (xJ ns a []))++[made b n (parts .none a v (r::l)) (xJ ns a [])])
   | _,_ => .fail
theorem zCY {ps:List Pt} (h:∀x∈ps,x.opn=true):zEW ps=none:=by
 unfold zEW;rw[List.findIdx?_eq_none_iff];intro x hx;simp[h x hx]
theorem zBD {ps:List Pt} {k:Nat} (h:k<ps.length) (h1:ps[k].opn=false) (h2:∀j (hj:j<ps.length),j<k->ps[j].opn=true):zEW ps=some k:=by
 unfold zEW;rw[List.findIdx?_eq_some_iff_getElem];exact⟨h,by simp[h1],fun j hj=>by simp[h2 j (by omega) hj]⟩
theorem RowsTy.conA {cs fs:List Nat} {a t n:Nat} {l:List Rw} {s y:ByteArray} (h:RowsTy cs (n+1) l) (ha:cs[a]? = some t) (hs:(s,fs)∈zO t) (h4:∃r∈l,∃p,r.ps[a]? = some p/\p.f=4):RowsTy (cs.take a++fs++cs.drop (a+1)) n (parts (.con s fs.length) a y l):=by
 have hw:=(zBV (.con s fs.length) a y l).2 h4;have hf:=wQ hs;have:=h.fuel;have:=zBU (.con s fs.length) a y l;have:=h.len;have:=h.cap;have hal:=(List.getElem?_eq_some_iff.1 ha).1;refine⟨fun r hr=>zDB h.row ha (.con t s fs hs) r hr,fun u hu=>?_,by omega,by simp at *;omega,by omega⟩;rcases List.mem_append.1 hu with hu|hu
 ·rcases List.mem_append.1 hu with hu|hu
  ·exact h.col u (List.mem_of_mem_take hu)
  ·exact hf.2.1 u hu
 ·exact h.col u (List.mem_of_mem_drop hu)
theorem RowsTy.lessA {cs:List Nat} {a t n:Nat} {K:Kn} {l:List Rw} {y:ByteArray} (h:RowsTy cs (n+1) l) (ha:cs[a]? = some t) (hK:Fit t K []):RowsTy (cs.take a++[]++cs.drop (a+1)) n (parts K a y l):=by
 have hw:=(zBV K a y l).1;have:=h.fuel;have:=zBU K a y l;have:=h.len;have:=h.cap;have hal:=(List.getElem?_eq_some_iff.1 ha).1;refine⟨fun r hr=>zDB h.row ha hK r hr,fun u hu=>?_,by omega,by simp at *;omega,by omega⟩;rw[List.append_nil] at hu;rcases List.mem_append.1 hu with hu|hu
 ·exact h.col u (List.mem_of_mem_take hu)
 ·exact h.col u (List.mem_of_mem_drop hu)
end Go.Proofs.YtebmimnglcdogaaGreatDoor
