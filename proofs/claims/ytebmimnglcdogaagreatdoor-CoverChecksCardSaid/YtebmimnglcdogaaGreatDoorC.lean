/- What takes which values: what 'miss' finds is taken by none, and what is new takes something. Plain. No condition. -/
import Derived.Test.YtebmimnglcdogaaGreatDoorB
set_option linter.unusedSimpArgs false
set_option linter.unusedVariables false
namespace Go.Proofs.YtebmimnglcdogaaGreatDoor
open Go Fp
set_option maxRecDepth 10000
set_option maxHeartbeats 4000000
mutual
theorem zOT:∀p:Pt,p.nodes<=p.sz
 | .mk f n s t ts k=>by have:=zLJ k;rw[Pt.nodes,Pt.sz];split<;>omega
theorem zLJ:∀l:List Pt,yT l<=szL l
 | []=>by simp[yT,szL]
 | p::r=>by have:=zOT p;have:=zLJ r;simp only[yT,szL];omega
end
inductive Vl where
 | mk (f n:Int) (s:ByteArray) (k:List Vl)
namespace Vl
def f:Vl->Int|mk f _ _ _=>f
def n:Vl->Int|mk _ n _ _=>n
def s:Vl->ByteArray|mk _ _ s _=>s
def k:Vl->List Vl|mk _ _ _ k=>k
end Vl
mutual
def takes:Pt->Vl->Bool
 | .mk f n s _ _ k,v=>(decide (f=1) || decide (f=2)) || ((decide (f=3) && (decide (v.f=2) && decide (v.n=n))) || (decide (f=4) && ((decide (v.f=1) && decide (v.s=s)) && zSA k v.k)))
def zSA:List Pt->List Vl->Bool
 | [],[]=>true
 | p::ps,v::vs=>takes p v && zSA ps vs
 | _,_=>false
end
def tk (l:List Rw) (vs:List Vl):Bool:=l.any fun r=>zSA r.ps vs
def fresh:Nat->List Rw->Rw->Bool
 | 0,_,_=>false
 | n+1,l,r=>match r.ps with
  | []=>l.isEmpty
  | p::_ =>
   let within (K:Kn):Bool:=match part K 0 .empty r with
    | some x=>fresh n (parts K 0 .empty l) x
    | none=>false
   if p.f=4 then within (.con p.s p.k.length) else if p.f=3 then within (.int p.n) else match jK 0 l with
    | some ks=>ks.any fun q=>within (.con q.1 q.2.length)
    | none=>within .none || (intsOf 0 l).any fun x=>within (.int x)
end Go.Proofs.YtebmimnglcdogaaGreatDoor
