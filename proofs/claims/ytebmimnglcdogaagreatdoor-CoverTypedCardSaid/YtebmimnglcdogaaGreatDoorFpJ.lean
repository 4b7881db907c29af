/- Regions of any order in which the outcome of one call is open. No condition. -/
import Derived.Test.YtebmimnglcdogaaGreatDoorFpI
set_option linter.unusedSimpArgs false
set_option linter.unusedVariables false
namespace Fp
open Go Go.MapKept
section
variable {P:Program} {arr:Array Oper} {o:Oper} {T:TT}
def OpensB (P:Program) (o:Oper) (e:Env) (V:List U->Prop) (m:Nat):Prop :=
 ∀cx e' g a w,(∀d,o.dst=some d->d<cx.n)->Agree m e e'->Rel cx g e' a w->∀(K:Act->World->Prop) (Q:Exit->Act->World->Prop),
  (∀v,V v->∀g' a' w',Rel cx g' (app e' v) a' w'->K a' w')->o.wp P a w K Q
theorem OpensB.agree {V:List U->Prop} {m:Nat} {e e':Env} (h:OpensB P o e V m) (q:Agree m e' e):OpensB P o e' V m:=fun cx e2 g a w hd hag hR=>h cx e2 g a w hd (q.symm.trans hag) hR
theorem zDU {e:Env} (hg:o.guard=none):Wants arr o e true:=by
 intro cx g e' a w _ _;unfold Region.wanted;rw[hg]
section
variable (P:Program) (T:TT) (ops:List Oper)
def zYG (o:Oper) (c:CE) (k:CE->Prop):Prop:=match o.guard,o.op with
 | none,.call cl=>match cl.callee with
  | .value f=>match opd (den c) f with
   | .v (.lit fv)=>match opds (den c) cl.args.toList with
    | some args => ∃is hin post,yZ is c.hp=some hin/\is.Nodup/\CallsG P fv hin args [] post/\(∃r w h,post r w h) /\
      ∀r w hout,post r w hout->k (capp c (putU o.dst (.v r)++(qV o.dst w++[.heap (yD is c.hp++hout)])))
    | none=>False
   | _=>False
  | _=>False
 | _,_=>False
def zA5 (o:Oper):Nat:=match o.op with
 | .call cl=>match cl.callee with
  | .value f=>(zI f ||| zB cl.args.toList) ||| 8
  | _=>zB cl.args.toList ||| 8
 | _=>8
def zFA (o:Oper):Nat:=zS o.dst ||| (8 ||| 128)
end
section
variable (OA:Oper->CE->(CE->Prop)->Prop) (P:Program) (T:TT) (ops:List Oper)
end
def OASpec (P:Program) (OA:Oper->CE->(CE->Prop)->Prop):Prop := ∀(o:Oper) (c:CE) (k:CE->Prop),OA o c k->∃V:List U->Prop,o.guard=none/\(∃v,V v)/\OpensB P o (den c) V (zA5 o)/\∀v,V v->Sub (wrU v) (zFA o)/\k (capp c v)
variable {OA:Oper->CE->(CE->Prop)->Prop}
theorem zRE:Sub 128 (zFA o):=Sub.trans Sub.inr Sub.inr
end
section
variable {P:Program}
end
end Fp
