/- Regions of any order in which the outcome of one call is open. No condition. -/
import Derived.Test.YtebmimnglcdogaaGreatDoorFpI
set_option linter.unusedSimpArgs false
set_option linter.unusedVariables false
namespace Fp
open Go Go.MapKept
section
variable {P:Program} {arr:Array Oper} {o:Oper} {T:TT}
def OpensB (P:Program) (o:Oper) (e:Env) (V:List U->Prop) (m:Nat):Prop :=
 ∀cx e' g a w,(∀d,o.dst=some d->d<cx.n)->Agree m e e'->Rel cx g e' a w->∀(K:Act->World->Prop) (Q:Exit->Act->World->Prop),
  (∀v,V v->∀g' a' w',Rel cx g' (app e' v) a' w'->K a' w')->o.wp P a w K Q
theorem OpensB.agree {V:List U->Prop} {m:Nat} {e e':Env} (h:OpensB P o e V m) (q:Agree m e' e):OpensB P o e' V m:=fun cx e2 g a w hd hag hR=>h cx e2 g a w hd (q.symm.trans hag) hR
theorem zQU {e:Env} (hg:o.guard=none):Wants arr o e true:=by
 intro cx g e' a w _ _;unfold Region.wanted;rw[hg]
section
variable (P:Program) (T:TT) (ops:List Oper)
def zSV (o:Oper) (c:CE) (k:CE->Prop):Prop:=match o.guard,o.op with
 | none,.call cl=>match cl.callee with
  | .value f=>match opd (den c) f with
   | .v (.lit fv)=>match opds (den c) cl.args.toList with
    | some args => ∃is hin post,xK is c.hp=some hin/\is.Nodup/\CallsG P fv hin args [] post/\(∃r w h,post r w h) /\
      ∀r w hout,post r w hout->k (capp c (putU o.dst (.v r)++(zBX o.dst w++[.heap (yF is c.hp++hout)])))
    | none=>False
   | _=>False
  | _=>False
 | _,_=>False
def zAX (o:Oper):Nat:=match o.op with
 | .call cl=>match cl.callee with
  | .value f=>(zJ f ||| zG cl.args.toList) ||| 8
  | _=>zG cl.args.toList ||| 8
 | _=>8
def zE8 (o:Oper):Nat:=yI o.dst ||| (8 ||| 128)
end
section
variable (OA:Oper->CE->(CE->Prop)->Prop) (P:Program) (T:TT) (ops:List Oper)
end
theorem zQA {c:CE} {k:CE->Prop} (h:zSV P o c k):∃V:List U->Prop,o.guard=none/\(∃v,V v)/\OpensB P o (den c) V (zAX o)/\∀v,V v->Sub (wrU v) (zE8 o)/\k (capp c v):=by
 unfold zSV at h;split at h
 ·rename_i cl hg ho;split at h
  ·rename_i f hc;split at h
   ·rename_i fv hf;split at h
    ·rename_i args ha;obtain⟨is,hin,post,h1,h2,h4,⟨r0,w0,hh0,hp0⟩,h5⟩:=h;refine⟨fun u => ∃r w hout,post r w hout/\u=putU o.dst (.v r)++(zBX o.dst w++[.heap (yF is c.hp++hout)]),hg,⟨_,r0,w0,hh0,hp0,rfl⟩,fun cx e' g a w hd hag hR K Q hK=>?_,?_⟩
     ·have hro:zAX o=(zJ f ||| zG cl.args.toList) ||| 8:=by unfold zAX;simp only[ho,hc]
      rw[hro] at hag;have hheap:c.hp=e'.heap:=hag.heap ((Sub.inr:Sub 8 ((zJ f ||| zG cl.args.toList) ||| 8)) 3 (by decide));obtain⟨n,first,cap,he,hen,hcalls⟩:=h4;have hfv:=(zF hag hR (Sub.trans Sub.inl Sub.inl) hf).lit_eq.1;rw[he] at hfv;refine zB8 hag hR ho hc (Sub.trans Sub.inr Sub.inl) hd (zFL ha) (is:=is) (os:=[]) (by rw[<-hheap];exact h1) h2 (by cases cl.args.toList<;>rfl) hfv hen (fun vs q1 q2 q3=>hcalls g.F w vs hR.fresh q1 q2 q3) fun r k' hout g' a' w' hp hR'=>hK _ ⟨r,k',hout,hp,rfl⟩ g' a' w' ?_;have hl:lose cl.args.toList []=[]:=by cases cl.args.toList with
       | nil=>rfl
       | cons x r=>cases x<;>rfl
      rw[hl,List.nil_append] at hR';rw[hheap];exact hR'
     ·rintro v ⟨r,w,hout,hp,rfl⟩;refine⟨?_,h5 r w hout hp⟩;unfold zE8;rw[zB9,zB9,zZ];refine .or Sub.inl (.or ?_ ?_)
      ·unfold zBX yI;cases o.dst with
       | none=>exact Sub.zero _
       | some d=>simp only[wrU];exact .or (Sub.trans Sub.inr Sub.inl) (Sub.zero _)
      ·simp only[wrU];exact .or (Sub.trans Sub.inl Sub.inr) (Sub.zero _)
    ·exact h.elim
   ·exact h.elim
  ·exact h.elim
 ·exact h.elim
def OASpec (P:Program) (OA:Oper->CE->(CE->Prop)->Prop):Prop := ∀(o:Oper) (c:CE) (k:CE->Prop),OA o c k->∃V:List U->Prop,o.guard=none/\(∃v,V v)/\OpensB P o (den c) V (zAX o)/\∀v,V v->Sub (wrU v) (zE8 o)/\k (capp c v)
variable {OA:Oper->CE->(CE->Prop)->Prop}
theorem zWT:Sub 128 (zE8 o):=Sub.trans Sub.inr Sub.inr
end
section
variable {P:Program}
theorem Rel.drop {cx : Ctx} {g : G} {e : Env} {a : Act} {w : World} (h : Rel cx g e a w) {hp : List (Nat × HO)} (hs : hp.Sublist e.heap) : Rel cx g { e with heap := hp } a w :=
  have hk : (keys hp).Sublist (keys e.heap) := hs.map _
  { h with
    slots := h.slots
    own := h.own
    heap := ⟨hk.nodup h.heap.nodup, fun b hb => h.heap.shut b (hk.subset hb), fun x hx => h.heap.ok x (hs.subset hx)⟩
    heapO := fun b hb => h.heapO b (hk.subset hb)
    al := h.al }
end
end Fp
