/- Regions: operations one behind the other, in the text's order or in any that the rules allow. No condition. -/
import Derived.Test.YtebmimnglcdogaaGreatDoorFpC
import Derived.Scope
set_option linter.unusedSimpArgs false
set_option linter.unusedVariables false
namespace Fp
open Go
structure EnvEq (e e':Env):Prop where
 val:∀s,nf (e.vals s)=nf (e'.vals s)
 own:∀s c,e.own s c=e'.own s c
 al:∀s,e.al s=e'.al s
 heap:e.heap=e'.heap
theorem EnvEq.refl (e:Env):EnvEq e e:=⟨fun _=>rfl,fun _ _=>rfl,fun _=>rfl,rfl⟩
theorem EnvEq.trans {a b c:Env} (h:EnvEq a b) (k:EnvEq b c):EnvEq a c:=⟨fun s=>(h.val s).trans (k.val s),fun s i=>(h.own s i).trans (k.own s i),fun s=>(h.al s).trans (k.al s),h.heap.trans k.heap⟩
theorem EnvEq.agree {e e':Env} (h:EnvEq e e') (m:Nat):Agree m e e':=⟨fun s _=>h.val s,fun s c _=>h.own s c,fun s _=>h.al s,fun _=>h.heap⟩
theorem Agree.symm {m:Nat} {e e':Env} (h:Agree m e e'):Agree m e' e:=⟨fun s q=>(h.val s q).symm,fun s c q=>(h.own s c q).symm,fun s q=>(h.al s q).symm,fun q=>(h.heap q).symm⟩
theorem Agree.trans {m:Nat} {a b c:Env} (h:Agree m a b) (k:Agree m b c):Agree m a c:=⟨fun s q=>(h.val s q).trans (k.val s q),fun s i q=>(h.own s i q).trans (k.own s i q),fun s q=>(h.al s q).trans (k.al s q),fun q=>(h.heap q).trans (k.heap q)⟩
theorem zOF {a:Act} {w:World} {x y:SV} (h:nf x=nf y) {s c:Nat} {v:Value} (hp:PlaceVal a w y s c v):PlaceVal a w x s c v:=by
 cases y with
 | v b =>
  cases x with
  | v b'=>exact hp
  | _=>cases b<;>simp[nf] at h
 | box g b =>
  have:=zXF h;subst this;exact hp
 | _=>exact hp.elim
theorem Rel.eqv {cx:Ctx} {g:G} {e e':Env} {a:Act} {w:World} (h:Rel cx g e a w) (q:EnvEq e e'):Rel cx g e' a w:=by
 refine {h with slots:=fun s=>?_,own:=fun s c sz v ho hp=>?_,heap:=q.heap ▸ h.heap,heapO:=q.heap ▸ h.heapO,al:=fun b s hb=>by rw[<-q.al s];exact h.al b s hb}
 ·rw[<-zAN,<-q.val s,zAN];exact h.slots s
 ·exact h.own s c sz v (by rw[q.own s c];exact ho) (zOF (q.val s) hp)
theorem zQ1 {m:Nat} {e e':Env} (h:Agree m e e') (u:U):Agree m (app1 e u) (app1 e' u):=by
 cases u with
 | val s x =>
  refine⟨fun t ht=>?_,h.own,h.al,h.heap⟩;show nf (zBJ e.vals s x t)=nf (zBJ e'.vals s x t);unfold zBJ;cases Nat.beq t s
  ·exact h.val t ht
  ·rfl
 | own s c n =>
  refine⟨h.val,fun t i ht=>?_,h.al,h.heap⟩;show (bif _ then n else e.own t i)=(bif _ then n else e'.own t i);rw[h.own t i ht]
 | clr s =>
  refine⟨h.val,fun t i ht=>?_,h.al,h.heap⟩;show (bif _ then 0 else e.own t i)=(bif _ then 0 else e'.own t i);rw[h.own t i ht]
 | al s =>
  refine⟨h.val,h.own,fun t ht=>?_,h.heap⟩;show (bif _ then true else e.al t)=(bif _ then true else e'.al t);rw[h.al t ht]
 | heap l=>exact⟨h.val,h.own,h.al,fun _=>rfl⟩
theorem zAP {m:Nat}:∀{u:List U} {e e':Env},Agree m e e'->Agree m (app e u) (app e' u)
 | [],_,_,h=>h
 | x::u,_,_,h=>zAP (u:=u) (zQ1 h x)
theorem EnvEq.of_agree {e e':Env} (h:∀m,Agree m e e'):EnvEq e e' :=
 ⟨fun s=>(h (bV s)).val s (qO s),fun s c=>(h (bO s)).own s c (qW s),fun s=>(h (bZ s)).al s (zNE s),(h 8).heap (by decide)⟩
theorem EnvEq.app {e e':Env} (h:EnvEq e e') (u:List U):EnvEq (app e u) (app e' u) := .of_agree fun m=>zAP (h.agree m)
def Disj (m n:Nat):Prop := ∀k,m.testBit k=true->n.testBit k=true->False
theorem Disj.symm {m n:Nat} (h:Disj m n):Disj n m:=fun k a b=>h k b a
theorem Disj.sub {m n m' n':Nat} (h:Disj m n) (hm:Sub m' m) (hn:Sub n' n):Disj m' n':=fun k a b=>h k (hm k a) (hn k b)
theorem Disj.of_land {m n:Nat} (h:m &&& n=0):Disj m n:=fun k a b=>by
 have:(m &&& n).testBit k=true:=by rw[Nat.testBit_and,a,b];rfl
 rw[h] at this;simp at this
theorem zW2 {m:Nat} {e:Env} {u:U} (h:Disj (wrU [u]) m):Agree m (app1 e u) e:=by
 cases u with
 | val s x =>
  refine⟨fun t ht=>?_,fun _ _ _=>rfl,fun _ _=>rfl,fun _=>rfl⟩;have hne:t≠s:=fun he=>by subst he;exact h _ (by simp[wrU,Nat.testBit_or,qO]) ht
  show nf (zBJ e.vals s x t)=_;rw[yQ _ _ hne]
 | own s c n =>
  refine⟨fun _ _=>rfl,fun t i ht=>?_,fun _ _=>rfl,fun _=>rfl⟩;have hne:t≠s:=fun he=>by subst he;exact h _ (by simp[wrU,Nat.testBit_or,qW]) ht
  show (bif _ then n else e.own t i)=_;rw[Nat.beq_ne hne];rfl
 | clr s =>
  refine⟨fun _ _=>rfl,fun t i ht=>?_,fun _ _=>rfl,fun _=>rfl⟩;have hne:t≠s:=fun he=>by subst he;exact h _ (by simp[wrU,Nat.testBit_or,qW]) ht
  show (bif _ then 0 else e.own t i)=_;rw[Nat.beq_ne hne];rfl
 | al s =>
  refine⟨fun _ _=>rfl,fun _ _ _=>rfl,fun t ht=>?_,fun _=>rfl⟩;have hne:t≠s:=fun he=>by subst he;exact h _ (by simp[wrU,Nat.testBit_or,zNE]) ht
  show (bif _ then true else e.al t)=_;rw[Nat.beq_ne hne];rfl
 | heap l=>exact⟨fun _ _=>rfl,fun _ _ _=>rfl,fun _ _=>rfl,fun ht=>(h 3 (by simp[wrU];rfl) ht).elim⟩
theorem zKI (x:U) (u:List U):wrU (x::u)=wrU [x] ||| wrU u:=by cases x<;>simp[wrU]
theorem zF5 {m:Nat}:∀{u:List U} {e:Env},Disj (wrU u) m->Agree m (app e u) e
 | [],_,_=>Agree.refl _ _
 | x::u,e,h=>by
  rw[zKI x u] at h;exact (zF5 (u:=u) (h.sub Sub.inr (Sub.refl _))).trans (zW2 (h.sub Sub.inl (Sub.refl _)))
theorem zF7 {α:Type} {p q:Bool} {x y z:α} (h:p=true->q=true->False):(bif p then x else bif q then y else z)=(bif q then y else bif p then x else z):=by
 cases p<;>cases q<;>first|rfl|exact (h rfl rfl).elim
theorem zUR {x y:U} (h:Disj (wrU [x]) (wrU [y])) (e:Env):app1 (app1 e x) y=app1 (app1 e y) x:=by
 cases x<;>cases y<;>(try rfl)<;>simp only[wrU,Nat.or_zero] at h<;>simp only[app1,Env.mk.injEq,and_true,true_and]
 case val.val d x d' y =>
  funext s
  refine zF7 fun h1 h2=>?_;have h1:=Nat.eq_of_beq_eq_true h1;have h2:=Nat.eq_of_beq_eq_true h2;subst h1;subst h2;exact h _ (qO _) (qO _)
 case own.own d c1 n d' c2 n' =>
  funext s c
  refine zF7 fun h1 h2=>?_;rw[Bool.and_eq_true] at h1 h2;have h1:=Nat.eq_of_beq_eq_true h1.1;have h2:=Nat.eq_of_beq_eq_true h2.1;subst h1;subst h2;exact h _ (qW _) (qW _)
 case own.clr d c1 n d' =>
  funext s c
  refine zF7 fun h1 h2=>?_;rw[Bool.and_eq_true] at h2;have h1:=Nat.eq_of_beq_eq_true h1;have h2:=Nat.eq_of_beq_eq_true h2.1;subst h1;subst h2;exact h _ (qW _) (qW _)
 case clr.own d d' c2 n' =>
  funext s c
  refine zF7 fun h1 h2=>?_;rw[Bool.and_eq_true] at h1;have h1:=Nat.eq_of_beq_eq_true h1.1;have h2:=Nat.eq_of_beq_eq_true h2;subst h1;subst h2;exact h _ (qW _) (qW _)
 case clr.clr d d'=>funext s c;cases Nat.beq s d<;>cases Nat.beq s d'<;>rfl
 case al.al d d'=>funext s;cases Nat.beq s d<;>cases Nat.beq s d'<;>rfl
 case heap.heap l l'=>exact (h 3 rfl rfl).elim
theorem zPJ:∀{u:List U} {x:U},Disj (wrU [x]) (wrU u)->∀e,app (app1 e x) u=app1 (app e u) x
 | [],_,_,_=>rfl
 | y::u,x,h,e=>by
  rw[zKI y u] at h;show app (app1 (app1 e x) y) u=app1 (app (app1 e y) u) x;rw[zUR (h.sub (Sub.refl _) Sub.inl),zPJ (h.sub (Sub.refl _) Sub.inr)]
theorem zN7:∀{u v:List U},Disj (wrU u) (wrU v)->∀e,app (app e u) v=app (app e v) u
 | [],_,_,_=>rfl
 | x::u,v,h,e=>by
  rw[zKI x u] at h;show app (app (app1 e x) u) v=app (app1 (app e v) x) u;rw[zN7 (h.sub Sub.inr (Sub.refl _)),zPJ (h.sub Sub.inl (Sub.refl _))]
def rfv:SV->SV
 | .box _ a => .box 0 a
 | .adB _ _ _ => .junk
 | x=>x
def refresh (e:Env):Env:={vals:=fun s=>rfv (e.vals s),own:=e.own,al:=fun _=>false,heap:=e.heap}
def z2R (k:Nat):SV->Bool
 | .box g _=>Nat.beq g k
 | _=>false
def rfO (e:Env):Ow->Ow
 | .box s k=>if z2R k (e.vals s) then .box s 0 else .no
 | o=>o
theorem rfO_tip {e:Env} {o:Ow} {s c:Nat}:rfO e o = .tip s c↔o = .tip s c:=by
 cases o<;>simp[rfO]
 split<;>simp
theorem rfO_obj {e:Env} {o:Ow}:rfO e o = .obj↔o = .obj:=by
 cases o<;>simp[rfO]
 split<;>simp
theorem zTS {e:Env} {o:Ow} {s q:Nat} (h:rfO e o = .box s q):q=0/\∃k a,o = .box s k/\e.vals s = .box k a:=by
 cases o with
 | box s' k =>
  simp only[rfO] at h;split at h
  ·rename_i hb;injection h with h1 h2
   subst h1;subst h2;refine⟨rfl,?_⟩;cases hx:e.vals s' with
   | box g a=>rw[hx] at hb;exact⟨g,a,by rw[Nat.eq_of_beq_eq_true hb],rfl⟩
   | _=>rw[hx] at hb;cases hb
  ·cases h
 | _=>simp[rfO] at h
theorem Rel.refresh {cx : Ctx} {g : G} {e : Env} {a : Act} {w : World} (h : Rel cx g e a w) : ∃ g', Rel cx g' (refresh e) a w := by
  refine ⟨{ F := g.F, O := fun b => rfO e (g.O b) }, ?_⟩
  refine { size := h.size, defers := h.defers, kept := h.kept, fext := h.fext, nbx := fun b s q hb ho => by (have ho : rfO e (g.O b) = .box s q := ho; cases h9 : g.O b with | box s' k => exact h.nbx b s' k hb h9 | _ => rw [h9] at ho; cases ho), old := fun b hb h1 => ?_, hkO := h.hkO, hkin := fun b hb ho => h.hkin b hb (rfO_obj.1 ho), fresh := h.fresh, freshO := fun b hb => ?_,
           slots := fun s => ?_, own := fun s c sz v ho hp => ?_, heap := h.heap, heapO := fun b hb => rfO_obj.2 (h.heapO b hb), al := fun b s hb => ?_ }
  · rcases h.old b hb h1 with h2 | ⟨h2, h3⟩
    · exact .inl (by simp only [h2]; rfl)
    · exact .inr ⟨h2, rfO_obj.2 h3⟩
  · simp only [h.freshO b hb]; rfl
  · have := h.slots s
    show SlotOk _ w s (rfv (e.vals s)) _;cases hx : e.vals s with
    | box k y =>
      rw [hx] at this;obtain ⟨b, cs, E, h1, h2, h3, h4, h5, h6⟩ := this;refine ⟨b, cs, E, h1, ?_, h3, fun b' hb' => ?_, h5, h6⟩
      · simp only [h2, rfO, hx, z2R]
        rw [if_pos (Nat.beq_refl k)]
      · obtain ⟨_, k', y', q1, q2⟩ := zTS hb'
        rw [hx] at q2; injection q2 with q2 _
        subst q2;exact h4 b' q1
    | adB s' k off => trivial
    | junk => trivial
    | undef => rw [hx] at this; exact this
    | v y => rw [hx] at this; exact this
    | adE l => rw [hx] at this; exact this
  · have hp' : PlaceVal a w (e.vals s) s c v := by
      change PlaceVal a w (rfv (e.vals s)) s c v at hp
      cases hx : e.vals s with
      | box k y => rw [hx] at hp; exact hp
      | v y => rw [hx] at hp; exact hp
      | _ => rw [hx] at hp; exact hp.elim
    have ht := h.own s c sz v ho hp';exact ⟨ht.1, fun b hb => rfO_tip.2 (ht.2 b hb)⟩
  · obtain ⟨h1, _⟩ := zTS hb
    cases h1
def gk (ops:List Oper) (o:Oper) (e:Env) (run skip:Env->Prop):Prop:=match o.guard with
 | none=>run e
 | some (j,want)=>match gslot ops j with
  | none=>False
  | some g=>match e.vals g with
   | .v (.lit (.bool b))=>match b,want with
    | true,true=>run e
    | false,false=>run e
    | _,_=>skip e
   | .v (.sb b)=>(b=want->run (app1 e (.val g (.v (.lit (.bool want))))))/\(b=(!want)->skip (app1 e (.val g (.v (.lit (.bool (!want)))))))
   | .undef=>skip e
   | _=>False
section
variable {P:Program} {hp:Bool} {arr:Array Oper} {o:Oper} {e:Env} {T:TT}
def Wants (arr:Array Oper) (o:Oper) (e:Env) (t:Bool):Prop :=
 ∀cx g e' a w,Agree (zY arr.toList o) e e'->Rel cx g e' a w->Region.wanted o (yielded arr a.tmps)=t
theorem zM4 {tmps:Array Value} {j g:Nat} (h:gslot arr.toList j=some g) {b:Bool} (hv:tmps.getD g undef = .bool b):yielded arr tmps j=some b:=by
 unfold gslot at h;unfold yielded;rw[Array.getElem?_toList] at h;cases ho:arr[j]? with
 | none=>rw[ho] at h;cases h
 | some o =>
  rw[ho] at h;simp only[] at h;simp only[Option.bind_some,h];cases ht:tmps[g]? with
  | none =>
   have:tmps.getD g undef=undef:=by simp[Array.getD_eq_getD_getElem?,ht]
   rw[this] at hv;cases hv
  | some u =>
   have:tmps.getD g undef=u:=by simp[Array.getD_eq_getD_getElem?,ht]
   rw[this] at hv;subst hv
   rfl
theorem zK4 {tmps:Array Value} {j g:Nat} (h:gslot arr.toList j=some g) (hv:tmps.getD g undef=undef):yielded arr tmps j=none:=by
 unfold gslot at h;unfold yielded;rw[Array.getElem?_toList] at h;cases ho:arr[j]? with
 | none=>rw[ho] at h;cases h
 | some o =>
  rw[ho] at h;simp only[] at h;simp only[Option.bind_some,h];cases ht:tmps[g]? with
  | none=>rfl
  | some u =>
   have:tmps.getD g undef=u:=by simp[Array.getD_eq_getD_getElem?,ht]
   rw[this] at hv;subst hv
   rfl
theorem zYV {run skip:Env->Prop} (h:gk arr.toList o e run skip):∃e1 t,EnvEq e e1/\Wants arr o e1 t/\(t=true->run e1)/\(t=false->skip e1):=by
 unfold gk at h;split at h
 ·rename_i hg;exact⟨e,true,EnvEq.refl e,fun _ _ _ _ _ _ _=>by unfold Region.wanted;rw[hg],fun _=>h,fun h=>by cases h⟩
 ·rename_i j want hg;split at h
  ·exact h.elim
  ·rename_i gs hgs;have rdg:zY arr.toList o=bV gs:=by unfold zY;rw[hg];simp only[hgs]
   have wants:∀(e1:Env) (b:Bool),nf (e1.vals gs) = .v (.lit (.bool b))->Wants arr o e1 (b == want):=fun e1 b hb cx g e' a w hag hR=>by
    have hv:=hag.val gs (by rw[rdg];exact qO gs);rw[hb] at hv;have hs:=hR.slots gs;rw[<-zAN,<-hv] at hs;have hs:=(Rep.lit_eq hs).1;unfold Region.wanted;rw[hg];simp only[zM4 hgs hs];cases b<;>cases want<;>rfl
   have wundef:e.vals gs = .undef->Wants arr o e false:=fun hb cx g e' a w hag hR=>by
    have hv:=hag.val gs (by rw[rdg];exact qO gs);rw[hb] at hv;have hs:=hR.slots gs;rw[<-zAN,<-hv] at hs;unfold Region.wanted;rw[hg];simp only[zK4 hgs hs];cases want<;>rfl
   split at h
   ·rename_i b hx;have hw:=wants e b (by rw[hx];rfl);cases b<;>cases want<;>exact⟨e,_,EnvEq.refl e,hw,fun hh=>(by first|exact h|cases hh),fun hh=>(by first|exact h|cases hh)⟩
   ·rename_i b hx;have eqv:∀c:Bool,b=c->EnvEq e (app1 e (.val gs (.v (.lit (.bool c))))):=fun c hc=>by
     subst hc;refine⟨fun s=>?_,fun _ _=>rfl,fun _=>rfl,rfl⟩;show nf (e.vals s)=nf (zBJ e.vals gs _ s);by_cases hs:s=gs
     ·subst hs;rw[zW,hx];rfl
     ·rw[yQ _ _ hs]
    have sel:∀c:Bool,nf ((app1 e (.val gs (.v (.lit (.bool c))))).vals gs) = .v (.lit (.bool c)):=fun c=>by
     show nf (zBJ e.vals gs _ gs)=_;rw[zW];rfl
    by_cases hbw:b=want
    ·refine⟨_,true,eqv want hbw,?_,fun _=>h.1 hbw,fun h=>by cases h⟩;have:=wants _ want (sel want);simpa using this
    ·have hbn:b = !want:=by cases b<;>cases want<;>first|rfl|exact absurd rfl hbw
     refine⟨_,false,eqv (!want) hbn,?_,fun h=>(by cases h),fun _=>h.2 hbn⟩;have:=wants _ (!want) (sel (!want));simpa using this
   ·rename_i hx;exact⟨e,false,EnvEq.refl e,wundef hx,fun h=>(by cases h),fun _=>h⟩
   ·exact h.elim
end
section
variable {P:Program} {arr:Array Oper} {o:Oper} {e:Env} {T:TT}
def StepOk (P:Program) (arr:Array Oper) (o:Oper) (e:Env) (u:List U):Prop :=
 Sub (wrU u) (wr arr.toList false o)/\((Wants arr o e true/\Runs P false arr o e u)∨(Wants arr o e false/\u=putU o.dst .undef))
theorem Wants.agree {t:Bool} {e e':Env} (h:Wants arr o e t) (q:Agree (zY arr.toList o) e' e):Wants arr o e' t:=fun cx g e2 a w hag hR=>h cx g e2 a w (q.symm.trans hag) hR
theorem Runs.agree {u:List U} {hp:Bool} {e e':Env} (h:Runs P hp arr o e u) (q:Agree (rd arr.toList hp o) e' e):Runs P hp arr o e' u:=fun cx e2 g a w hd hag hR=>h cx e2 g a w hd (q.symm.trans hag) hR
theorem Agree.sub {m m':Nat} {e e':Env} (h:Agree m e e') (s:Sub m' m):Agree m' e e':=⟨fun t q=>h.val t (s _ q),fun t c q=>h.own t c (s _ q),fun t q=>h.al t (s _ q),fun q=>h.heap (s _ q)⟩
theorem StepOk.agree {u:List U} {e e':Env} (h:StepOk P arr o e u) (q:Agree (rd arr.toList false o) e' e):StepOk P arr o e' u :=
 ⟨h.1,h.2.imp (fun h=>⟨h.1.agree (q.sub Sub.inl),h.2.agree q⟩) (fun h=>⟨h.1.agree (q.sub Sub.inl),h.2⟩)⟩
def Trace (P:Program) (arr:Array Oper):List Oper->Env->List (List U)->Prop
 | [],_,us=>us=[]
 | o::r,e,us => ∃u us',us=u::us'/\StepOk P arr o e u/\Trace P arr r (app e u) us'
def zAD (e:Env):List (List U)->Env
 | []=>e
 | u::us=>zAD (app e u) us
def yV:List (List U)->Nat->Array Bool->Env->Env
 | [],_,_,e=>e
 | u::us,i,L,e=>yV us (i+1) L (if L.getD i false=true then app e u else e)
theorem zHE:∀(us:List (List U)) (i:Nat) (L:Array Bool) (e:Env) (u:List U),(∀(j:Nat) v,us[j]? = some v->L.getD (i+j) false=true->Disj (wrU u) (wrU v))->yV us i L (app e u)=app (yV us i L e) u
 | [],_,_,_,_,_=>rfl
 | v::us,i,L,e,u,h=>by
  have h':∀(j:Nat) w,us[j]? = some w->L.getD (i+1+j) false=true->Disj (wrU u) (wrU w):=fun j w hj hl=>h (j+1) w hj (by rw[show i+(j+1)=i+1+j by omega];exact hl);simp only[yV];split
  ·rename_i hl;rw[zN7 (h 0 v rfl hl),zHE us (i+1) L _ u h']
  ·exact zHE us (i+1) L e u h'
theorem zLW:∀(us:List (List U)) (i:Nat) (L L':Array Bool) (e:Env),(∀j,i<=j->L.getD j false=L'.getD j false)->yV us i L e=yV us i L' e
 | [],_,_,_,_,_=>rfl
 | v::us,i,L,L',e,h=>by
  simp only[yV,h i (Nat.le_refl _)];exact zLW us (i+1) L L' _ fun j hj=>h j (by omega)
theorem jR:∀(us:List (List U)) (i k:Nat) (L:Array Bool) (e:Env) (u:List U),i+k<L.size->us[k]? = some u->L.getD (i+k) false=false ->
  (∀(j:Nat) v,us[j]? = some v->k<j->L.getD (i+j) false=true->Disj (wrU u) (wrU v))->yV us i (L.setIfInBounds (i+k) true) e=app (yV us i L e) u
 | [],_,_,_,_,_,_,h,_,_=>by simp at h
 | v::us,i,0,L,e,u,hs,h,hl,hd=>by
  simp only[List.getElem?_cons_zero,Option.some.injEq] at h;subst h;have h1:(L.setIfInBounds (i+0) true).getD i false=true:=by simp;omega
  have hl':¬(L.getD i false=true):=by
   have:L.getD (i+0) false=L.getD i false:=rfl;rw[<-this,hl];simp
  show yV us (i+1) _ (if (L.setIfInBounds (i+0) true).getD i false=true then app e v else e)=app (yV us (i+1) L (if L.getD i false=true then app e v else e)) v;rw[if_pos h1,if_neg hl'];rw[zLW us (i+1) _ L (app e v) (fun j hj=>getD_set_ne false (by omega))];exact zHE us (i+1) L e v fun j w hj hlj=>hd (j+1) w hj (by omega) (by rw[show i+(j+1)=i+1+j by omega];exact hlj)
 | v::us,i,k+1,L,e,u,hs,h,hl,hd=>by
  have h1:(L.setIfInBounds (i+(k+1)) true).getD i false=L.getD i false:=getD_set_ne false (by omega);show yV us (i+1) _ (if (L.setIfInBounds (i+(k+1)) true).getD i false=true then app e v else e)=app (yV us (i+1) L (if L.getD i false=true then app e v else e)) u;rw[h1,show i+(k+1)=i+1+k by omega];exact jR us (i+1) k L _ u (by omega) h (by rw[show i+1+k=i+(k+1) by omega];exact hl) fun j w hj hk hlj=>hd (j+1) w hj (by omega) (by rw[show i+(j+1)=i+1+j by omega];exact hlj)
theorem zFD:∀(us:List (List U)) (i:Nat) (L:Array Bool) (e:Env),(∀j,j<us.length->L.getD (i+j) false=true)->yV us i L e=zAD e us
 | [],_,_,_,_=>rfl
 | v::us,i,L,e,h=>by
  have:=h 0 (by simp);simp only[yV,zAD];rw[if_pos (by simpa using this)];exact zFD us (i+1) L _ fun j hj=>by rw[show i+1+j=i+(j+1) by omega];exact h (j+1) (by simpa using hj)
theorem zBR:∀(us:List (List U)) (i:Nat) (L:Array Bool) (e:Env),(∀j,L.getD j false=false)->yV us i L e=e
 | [],_,_,_,_=>rfl
 | v::us,i,L,e,h=>by
  simp only[yV];rw[if_neg (by rw[h i];simp)];exact zBR us (i+1) L e h
theorem zC3 {m:Nat}:∀(us:List (List U)) (i:Nat) (L:Array Bool) (e:Env),(∀(j:Nat) v,us[j]? = some v->L.getD (i+j) false=true->Disj (wrU v) m)->Agree m (yV us i L e) e
 | [],_,_,e,_=>Agree.refl _ e
 | v::us,i,L,e,h=>by
  have h':∀(j:Nat) w,us[j]? = some w->L.getD (i+1+j) false=true->Disj (wrU w) m:=fun j w hj hl=>h (j+1) w hj (by rw[show i+(j+1)=i+1+j by omega];exact hl);simp only[yV];split
  ·rename_i hl;exact (zC3 us (i+1) L _ h').trans (zF5 (h 0 v rfl hl))
  ·exact zC3 us (i+1) L e h'
theorem zN5 {L:Array Bool}:∀(r:List Oper) (us:List (List U)) (i k:Nat) (e e':Env),Trace P arr r e us->r[k]? = some o->Agree (rd arr.toList false o) e e' ->
  (∀(j:Nat) v,us[j]? = some v->j<k->L.getD (i+j) false=false->Disj (wrU v) (rd arr.toList false o))->(∀(j:Nat) v,us[j]? = some v->k<=j->L.getD (i+j) false=true->Disj (wrU v) (rd arr.toList false o)) ->
  ∃u,us[k]? = some u/\StepOk P arr o (yV us i L e') u
 | [],us,i,k,e,e',_,h,_,_,_=>by simp at h
 | o'::r,us,i,0,e,e',ht,h,q,h1,h2=>by
  obtain⟨u,us',rfl,hs,ht'⟩:=ht;simp only[List.getElem?_cons_zero,Option.some.injEq] at h;subst h;exact⟨u,rfl,hs.agree ((zC3 (u::us') i L e' fun j v hj hl=>h2 j v hj (Nat.zero_le _) hl).trans q.symm)⟩
 | o'::r,us,i,k+1,e,e',ht,h,q,h1,h2=>by
  obtain⟨u,us',rfl,hs,ht'⟩:=ht;have g1:∀(j:Nat) v,us'[j]? = some v->j<k->L.getD (i+1+j) false=false->Disj (wrU v) (rd arr.toList false o):=fun j v hj hk hl=>h1 (j+1) v hj (by omega) (by rw[show i+(j+1)=i+1+j by omega];exact hl);have g2:∀(j:Nat) v,us'[j]? = some v->k<=j->L.getD (i+1+j) false=true->Disj (wrU v) (rd arr.toList false o):=fun j v hj hk hl=>h2 (j+1) v hj (by omega) (by rw[show i+(j+1)=i+1+j by omega];exact hl);have step:Agree (rd arr.toList false o) (app e u) (if L.getD i false=true then app e' u else e'):=by
   split
   ·exact zAP q
   ·rename_i hl;exact (zF5 (h1 0 u rfl (by omega) (by simpa using hl))).trans q
  obtain⟨u',p1,p2⟩:=zN5 r us' (i+1) k _ _ ht' (by simpa using h) step g1 g2;exact⟨u',by simpa using p1,p2⟩
theorem zQF:∀(r:List Oper) (us:List (List U)) (e:Env),Trace P arr r e us->us.length=r.length/\∀(j:Nat) u,us[j]? = some u->∃o,r[j]? = some o/\Sub (wrU u) (wr arr.toList false o)
 | [],us,e,ht=>by
  have:us=[]:=ht;subst this;exact⟨rfl,fun j u h=>by simp at h⟩
 | o::r,us,e,ht=>by
  obtain⟨u,us',rfl,hs,ht'⟩:=ht;obtain⟨h1,h2⟩:=zQF r us' _ ht';refine⟨by simp[h1],fun j v hj=>?_⟩
  match j with
  | 0=>simp at hj;subst hj;exact⟨o,rfl,hs.1⟩
  | j+1=>exact h2 j v (by simpa using hj)
def qJ (acc:List Nat):List Edge->Nat
 | []=>0
 | e::r=>bif Region.binds .any e && Nat.blt e.on acc.length then 2 ^ e.on ||| ((match acc[e.on]? with|some m=>m|none=>0) ||| qJ acc r) else qJ acc r
def zBY (n:Nat):List Edge->Bool
 | []=>true
 | e::r=>(bif Region.binds .any e then Nat.blt e.on n else true) && zBY n r
def clash (a b c d:Nat):Bool := !(Nat.beq (Nat.land b c) 0 && (Nat.beq (Nat.land b d) 0 && Nat.beq (Nat.land a d) 0))
def zAV (m:Nat) (rdj wrj:Nat):Nat->List (Nat×Nat)->Bool
 | _,[]=>true
 | i,(r,w)::acc=>(bif clash r w rdj wrj then Nat.testBit m i else true) && zAV m rdj wrj (i+1) acc
def zFB (ops:List Oper):List Oper->List Nat->List (Nat×Nat)->Bool
 | [],_,_=>true
 | o::r,ms,acc=>zBY ms.length o.after.toList && (zAV (qJ ms o.after.toList) (rd ops false o) (wr ops false o) 0 acc && zFB ops r (ms++[qJ ms o.after.toList]) (acc++[(rd ops false o,wr ops false o)]))
def zJJ (ops:List Oper):Bool:=zFB ops ops [] []
structure Checked (ops:List Oper):Prop where
 back:∀(j:Nat) o,ops[j]? = some o->∀e∈o.after.toList,Region.binds .any e=true->e.on<j
 clash:∀(i j:Nat) oi oj,i<j->ops[i]? = some oi->ops[j]? = some oj->clash (rd ops false oi) (wr ops false oi) (rd ops false oj) (wr ops false oj)=true ->
  ∀L:Array Bool,(∀(k:Nat) o,ops[k]? = some o->L.getD k false=true->∀e∈o.after.toList,Region.binds .any e=true->L.getD e.on false=true) ->
   (∀e∈oj.after.toList,Region.binds .any e=true->L.getD e.on false=true)->L.getD i false=true
theorem zAU {n:Nat}:∀{l:List Edge},zBY n l=true->∀e∈l,Region.binds .any e=true->e.on<n
 | [],_,e,he,_=>by simp at he
 | x::r,h,e,he,hb=>by
  simp only[zBY,Bool.and_eq_true] at h;rcases List.mem_cons.1 he with rfl|he
  ·have:=h.1;rw[hb] at this;simp only[cond_true] at this;exact Nat.le_of_ble_eq_true this
  ·exact zAU h.2 e he hb
theorem jY {m a b:Nat}:∀{n:Nat} {acc:List (Nat×Nat)},zAV m a b n acc=true->∀(i:Nat) x,acc[i]? = some x->clash x.1 x.2 a b=true->m.testBit (n+i)=true
 | n,[],_,i,x,h,_=>by simp at h
 | n,(r,w)::acc,h,i,x,hx,hc=>by
  simp only[zAV,Bool.and_eq_true] at h
  match i with
  | 0=>simp at hx;subst hx;have:=h.1;simp only[] at hc;rw[hc] at this;exact this
  | i+1=>rw[show n+(i+1)=n+1+i by omega];exact jY h.2 i x (by simpa using hx) hc
def zNI (L:Array Bool) (m:Nat):Prop := ∀i,m.testBit i=true->L.getD i false=true
theorem jP {L:Array Bool} {acc:List Nat} (hacc:∀(k:Nat) m,acc[k]? = some m->L.getD k false=true->zNI L m):∀{l:List Edge},(∀e∈l,Region.binds .any e=true->L.getD e.on false=true)->zNI L (qJ acc l)
 | [],_=>fun i h=>by simp[qJ] at h
 | e::r,h=>by
  have ih:=jP hacc (l:=r) fun x hx=>h x (List.mem_cons_of_mem _ hx);intro i hi;simp only[qJ] at hi;cases hc:Region.binds .any e && Nat.blt e.on acc.length with
  | false=>rw[hc] at hi;exact ih i hi
  | true =>
   rw[hc] at hi;rw[Bool.and_eq_true] at hc;have hl:=h e List.mem_cons_self hc.1;simp only[cond_true,Nat.testBit_or,Bool.or_eq_true] at hi;rcases hi with hi|hi|hi
   ·have:e.on=i:=by
     by_cases h:e.on=i
     ·exact h
     ·rw[Nat.testBit_two_pow_of_ne h] at hi;cases hi
    subst this;exact hl
   ·cases ha:acc[e.on]? with
    | none=>rw[ha] at hi;simp at hi
    | some m=>rw[ha] at hi;exact hacc _ m ha hl i hi
   ·exact ih i hi
theorem zEH {ops:List Oper}:∀(r done:List Oper) (ms:List Nat) (acc:List (Nat×Nat)),ops=done++r->ms.length=done.length->acc=done.map (fun o=>(rd ops false o,wr ops false o)) ->
  (∀L:Array Bool,(∀(k:Nat) o,ops[k]? = some o->L.getD k false=true->∀e∈o.after.toList,Region.binds .any e=true->L.getD e.on false=true)->∀(k:Nat) m,ms[k]? = some m->L.getD k false=true->zNI L m) ->
  zFB ops r ms acc=true->∀(t:Nat) o,r[t]? = some o ->
   (∀e∈o.after.toList,Region.binds .any e=true->e.on<done.length+t) /\
   ∀(i:Nat) oi,i<done.length+t->ops[i]? = some oi->clash (rd ops false oi) (wr ops false oi) (rd ops false o) (wr ops false o)=true ->
    ∀L:Array Bool,(∀(k:Nat) o,ops[k]? = some o->L.getD k false=true->∀e∈o.after.toList,Region.binds .any e=true->L.getD e.on false=true) ->
     (∀e∈o.after.toList,Region.binds .any e=true->L.getD e.on false=true)->L.getD i false=true
 | [],_,_,_,_,_,_,_,_,t,o,ht=>by simp at ht
 | x::r,done,ms,acc,hops,hms,hacc,hin,h,t,o,ht=>by
  simp only[zFB,Bool.and_eq_true] at h;obtain⟨h1,h2,h3⟩:=h
  match t with
  | 0 =>
   simp only[List.getElem?_cons_zero,Option.some.injEq] at ht;subst ht;refine⟨fun e he hb=>by rw[<-hms];exact zAU h1 e he hb,fun i oi hi hoi hc L hL hl=>?_⟩;have hai:acc[i]? = some (rd ops false oi,wr ops false oi):=by
    rw[hacc,List.getElem?_map];rw[hops,List.getElem?_append_left (by omega)] at hoi;rw[hoi];rfl
   have:=jY h2 i _ hai hc;rw[Nat.zero_add] at this;exact jP (hin L hL) hl i this
  | t+1 =>
   have:=zEH r (done++[x]) _ _ (by rw[hops];simp) (by simp[hms]) (by rw[hacc];simp) (fun L hL k m hk hlk=>?_) h3 t o (by simpa using ht)
   ·simp only[List.length_append,List.length_cons,List.length_nil] at this;rw[show done.length+(t+1)=done.length+(0+1)+t by omega];exact this
   ·rcases Nat.lt_or_ge k ms.length with hlt|hge
    ·rw[List.getElem?_append_left hlt] at hk;exact hin L hL k m hk hlk
    ·rw[List.getElem?_append_right hge] at hk;have hk0:k-ms.length=0:=by
      have:=(List.getElem?_eq_some_iff.1 hk).1;simp at this;omega
     rw[hk0] at hk;simp only[List.getElem?_cons_zero,Option.some.injEq] at hk;subst hk;have hkk:k=done.length:=by omega
     subst hkk;have hox:ops[done.length]? = some x:=by rw[hops];simp
     exact jP (hin L hL) (hL _ x hox hlk)
theorem zLE {ops:List Oper} (h:zJJ ops=true):Checked ops:=by
 have:=zEH ops [] [] [] rfl rfl rfl (fun L _ k m hk=>by simp at hk) h;refine⟨fun j o hj e he hb=>?_,fun i j oi oj hij hi hj hc=>?_⟩
 ·have:=(this j o hj).1 e he hb;simpa using this
 ·exact (this j oj hj).2 i oi (by simpa using hij) hi hc
theorem filter_lt {p q:Nat->Bool}:∀{l:List Nat} {j:Nat},(∀i,q i=true->p i=true)->j∈l->p j=true->q j=false->(l.filter q).length<(l.filter p).length
 | [],j,_,h,_,_=>by simp at h
 | x::l,j,hs,hj,hp,hq=>by
  have le:(l.filter q).length<=(l.filter p).length:=by
   clear hj;induction l with
   | nil=>simp
   | cons y l ih =>
    simp only[List.filter_cons];cases hqy:q y with
    | true=>rw[hs y hqy];simpa using ih
    | false=>cases p y<;>simp<;>omega
  simp only[List.filter_cons];rcases List.mem_cons.1 hj with rfl|hj
  ·rw[hp,hq];simp;omega
  ·have ih:=filter_lt hs hj hp hq;cases hqx:q x with
   | true=>rw[hs x hqx];simpa using ih
   | false=>cases p x<;>simp<;>omega
theorem xI {a b c d:Nat} (h:clash a b c d=false):Disj b c/\Disj b d/\Disj a d:=by
 unfold clash at h;rw[Bool.not_eq_false',Bool.and_eq_true,Bool.and_eq_true] at h;exact⟨Disj.of_land (Nat.eq_of_beq_eq_true h.1),Disj.of_land (Nat.eq_of_beq_eq_true h.2.1),Disj.of_land (Nat.eq_of_beq_eq_true h.2.2)⟩
def left (arr:Array Oper) (L:Array Bool):Nat:=((List.range arr.size).filter fun i => !L.getD i true).length
theorem zQ0 (hc:Checked arr.toList) {Q:Exit->Act->World->Prop} {cx:Ctx} (hd:∀o∈arr.toList,∀d,o.dst=some d->d<cx.n) {e0:Env} {us:List (List U)} (ht:Trace P arr arr.toList e0 us)
  (hQ:∀g a w,Rel cx g (zAD e0 us) a w->Q .normal a w):∀(fuel:Nat) (L:Array Bool) (g:G) (a:Act) (w:World),L.size=arr.size->left arr L<=fuel ->
   (∀(k:Nat) o,arr.toList[k]? = some o->L.getD k false=true->∀e∈o.after.toList,Region.binds .any e=true->L.getD e.on false=true) ->
   Rel cx g (yV us 0 L e0) a w->wpAny P .any arr Q fuel L a w:=by
 obtain⟨hlen,hwr⟩:=zQF _ _ _ ht;have hlen:us.length=arr.size:=by rw[hlen];simp
 have full:∀L:Array Bool,L.size=arr.size->Region.ready .any arr L=[]->∀j,j<arr.size->L.getD j false=true:=by
  intro L hL hr j;induction j using Nat.strongRecOn with
  | _ j ih =>
   intro hj;cases hl:L.getD j false with
   | true=>rfl
   | false =>
    exfalso;have:j∈Region.ready .any arr L:=by
     rw[mem_ready];have hjL:j<L.size:=by rw[hL];exact hj
     have he:L.getD j true=L.getD j false:=by simp[Array.getD_eq_getD_getElem?,hjL]
     refine⟨by rw[he];exact hl,arr[j],by simp[hj],fun e he hb=>?_⟩;have hoj:arr.toList[j]? = some arr[j]:=by simp[hj]
     have:=hc.back j _ hoj e (by simpa using he) hb;exact ih e.on this (by omega)
    rw[hr] at this;cases this
 have done:∀(L:Array Bool) (g:G) (a:Act) (w:World),L.size=arr.size->Region.ready .any arr L=[]->Rel cx g (yV us 0 L e0) a w->Q .normal a w:=fun L g a w hL hr hR=>by
  have:=zFD us 0 L e0 fun j hj=>by rw[Nat.zero_add];exact full L hL hr j (by rw[<-hlen];exact hj)
  rw[this] at hR;exact hQ g a w hR
 intro fuel;induction fuel with
 | zero =>
  intro L g a w hL hf hcl hR;have hr:Region.ready .any arr L=[]:=by
   cases hr:Region.ready .any arr L with
   | nil=>rfl
   | cons j r =>
    have hj:j∈Region.ready .any arr L:=by rw[hr];exact List.mem_cons_self
    obtain⟨h1,o,ho,_⟩:=mem_ready.1 hj;have:j∈(List.range arr.size).filter fun i => !L.getD i true:=List.mem_filter.2 ⟨List.mem_range.2 (Array.getElem?_eq_some_iff.1 ho).1,by rw[h1];rfl⟩;have:=List.length_pos_of_mem this;unfold left at hf;omega
  exact⟨hr,done L g a w hL hr hR⟩
 | succ fuel ih =>
  intro L g a w hL hf hcl hR;refine⟨fun hr=>done L g a w hL hr hR,fun j hj=>?_⟩;obtain⟨h1,o,ho,h2⟩:=mem_ready.1 hj;have hjs:=(Array.getElem?_eq_some_iff.1 ho).1;have hjL:j<L.size:=by rw[hL];exact hjs
  have hoj:arr.toList[j]? = some o:=by rw[Array.getElem?_toList];exact ho
  have hlj:L.getD j false=false:=by
   have he:L.getD j true=L.getD j false:=by simp[Array.getD_eq_getD_getElem?,hjL]
   rw[<-he];exact h1
  have hedge:∀e∈o.after.toList,Region.binds .any e=true->L.getD e.on false=true:=fun e he hb=>h2 e (by simpa using he) hb;have before:∀(i:Nat) v,us[i]? = some v->i<j->L.getD i false=false->Disj (wrU v) (rd arr.toList false o):=fun i v hi hij hl=>by
   obtain⟨oi,hoi,hs⟩:=hwr i v hi;cases hcc:clash (rd arr.toList false oi) (wr arr.toList false oi) (rd arr.toList false o) (wr arr.toList false o) with
   | true=>have:=hc.clash i j oi o hij hoi hoj hcc L hcl hedge;rw[hl] at this;cases this
   | false=>exact (xI hcc).1.sub hs (Sub.refl _)
  have behind:∀(i:Nat) oi,arr.toList[i]? = some oi->j<i->L.getD i false=true->clash (rd arr.toList false o) (wr arr.toList false o) (rd arr.toList false oi) (wr arr.toList false oi)=false:=fun i oi hoi hij hl=>by
   cases hcc:clash (rd arr.toList false o) (wr arr.toList false o) (rd arr.toList false oi) (wr arr.toList false oi) with
   | false=>rfl
   | true =>
    have:=hc.clash j i o oi hij hoj hoi hcc L hcl (fun e he hb=>hcl i oi hoi hl e he hb);rw[hlj] at this;cases this
  obtain⟨u,hu,hst⟩:=zN5 (L:=L) arr.toList us 0 j e0 e0 ht hoj (Agree.refl _ _) (fun i v hi hij hl=>before i v hi hij (by simpa using hl)) (fun i v hi hij hl=>by
   rw[Nat.zero_add] at hl;rcases Nat.eq_or_lt_of_le hij with rfl|hlt
   ·rw[hlj] at hl;cases hl
   ·obtain⟨oi,hoi,hs⟩:=hwr i v hi;exact (xI (behind i oi hoi hlt hl)).2.2.symm.sub hs (Sub.refl _))
  have hins:yV us 0 (L.setIfInBounds j true) e0=app (yV us 0 L e0) u:=by
   have:=jR us 0 j L e0 u (by omega) hu (by simpa using hlj) (fun i v hi hij hl=>by
    rw[Nat.zero_add] at hl;obtain⟨oi,hoi,hs⟩:=hwr i v hi;exact (xI (behind i oi hoi hij hl)).2.1.sub hst.1 hs)
   rw[Nat.zero_add] at this;exact this
  have hnext:∀g' a' w',Rel cx g' (app (yV us 0 L e0) u) a' w'->wpAny P .any arr Q fuel (L.setIfInBounds j true) a' w':=fun g' a' w' hR'=>by
   refine ih _ g' a' w' (by simp[hL]) ?_ (fun k ok hk hl e he hb=>?_) (by rw[hins];exact hR')
   ·have:left arr (L.setIfInBounds j true)<left arr L:=by
     refine filter_lt (j:=j) (fun i hi=>?_) (List.mem_range.2 hjs) (by rw[h1];rfl) (by simp[hjL]);by_cases hij:j=i
     ·subst hij;simp[hjL] at hi
     ·rw[getD_set_ne true hij] at hi;exact hi
    omega
   ·by_cases hjk:j=k
    ·subst hjk;rw[hoj] at hk;injection hk with hk;subst hk
     exact getD_set_true (hedge e he hb)
    ·rw[getD_set_ne false hjk] at hl;exact getD_set_true (hcl k ok hk hl e he hb)
  have hdo:=hd o (List.mem_of_getElem? hoj);unfold wpOp;rw[ho];simp only[];rcases hst.2 with⟨hw,hr⟩|⟨hw,hu2⟩
  ·rw[if_pos (hw cx g _ a w (Agree.refl _ _) hR)];exact .inl (hr cx _ g a w hdo (Agree.refl _ _) hR _ _ hnext)
  ·rw[if_neg (by rw[hw cx g _ a w (Agree.refl _ _) hR];simp)];subst hu2;exact hnext g _ w (hR.putU hdo (fun d=>(rfl:SlotOk g w d .undef undef)))
end
structure Fr where
 vs:List (Nat×SV)
 ow:List (Nat×Nat×Nat):=[]
 hp:List (Nat×HO):=[]
def yA:List (Nat×SV)->Nat->SV
 | [],_ => .junk
 | (i,x)::r,s=>bif Nat.beq i s then x else yA r s
def lookO:List (Nat×Nat×Nat)->Nat->Nat->Nat
 | [],_,_=>0
 | (i,j,n)::r,s,c=>bif Nat.beq i s && Nat.beq j c then n else lookO r s c
def mkE (f:Fr):Env:={vals:=yA f.vs,own:=lookO f.ow,al:=fun _=>false,heap:=f.hp}
def wks:SV->SV
 | .v a => .v (wk a)
 | .box _ a => .box 0 (wk a)
 | .adB _ _ _ => .junk
 | x=>x
def zDH (x:SV) (c:Nat):Bool:=match x with
 | .v .nil=>Nat.beq c 0
 | .box _ a=>match a.cells[c]? with
  | some .nil=>true
  | _=>false
 | _=>false
def leS (y x:SV):Prop:=match x with
 | .v (.lit (.slice none 0 0))=>y = .v .nil∨wks y = .v (.lit (.slice none 0 0))
 | x=>wks y=x
def leV (e:Env):List (Nat×SV)->Prop
 | []=>True
 | (s,x)::r=>leS (e.vals s) x/\leV e r
def leO (e:Env):List (Nat×Nat×Nat)->Prop
 | []=>True
 | (s,c,n)::r=>(match zDH (e.vals s) c with|true=>True|false=>e.own s c=n)/\leO e r
def le (e:Env) (f:Fr):Prop:=leV e f.vs/\leO e f.ow/\e.heap=f.hp
def zTL (c:Operand) (b:Bool) (e:Env):Env:=match c with
 | .tmp t=>app1 e (.val t (.v (.lit (.bool b))))
 | _=>e
def codeOk (n:Nat):Code->Bool
 | .region _ ops draw=>ops.toList.all (fun o=>match o.dst with|some d=>Nat.blt d n|none=>true) && (bif draw then zJJ ops.toList else true)
 | .seq a b=>codeOk n a && codeOk n b
 | .cond _ a b=>codeOk n a && codeOk n b
 | .block _ c=>codeOk n c
 | .loop c=>codeOk n c
 | .scope c=>codeOk n c
 | _=>true
theorem zCL {e:Env}:∀{l:List (Nat×SV)} (s:Nat),leV e l->yA l s = .junk∨leS (e.vals s) (yA l s)
 | [],_,_ => .inl rfl
 | (i,x)::r,s,h=>by
  simp only[yA];cases hb:Nat.beq i s with
  | true=>have:=Nat.eq_of_beq_eq_true hb;subst this;exact .inr h.1
  | false=>exact zCL s h.2
theorem zIZ {e:Env}:∀{l:List (Nat×Nat×Nat)} (s c:Nat),leO e l->lookO l s c=0∨zDH (e.vals s) c=true∨e.own s c=lookO l s c
 | [],_,_,_ => .inl rfl
 | (i,j,n)::r,s,c,h=>by
  simp only[lookO];cases hb:Nat.beq i s && Nat.beq j c with
  | true =>
   rw[Bool.and_eq_true] at hb;have h1:=Nat.eq_of_beq_eq_true hb.1;have h2:=Nat.eq_of_beq_eq_true hb.2;subst h1;subst h2;have:=h.1;split at this
   ·rename_i hp;exact .inr (.inl hp)
   ·exact .inr (.inr this)
  | false=>exact zIZ s c h.2
theorem zZZ (a:AV):(wk a).cells=a.cells∨(wk a).cells=a.cells.map wk1:=by
 unfold wk;cases zM0 a
 ·exact .inl rfl
 ·right
  show (zLY a).cells=_;unfold zLY;split
  ·rfl
  ·rfl
  ·rfl
  ·rename_i h1 h2 h3;have:wk1 a=a:=by
    unfold wk1;split
    ·exact absurd rfl h1
    ·rename_i b;exact absurd rfl (h2 b)
    ·rfl
   cases a with
   | agg l=>exact absurd rfl (h3 l)
   | _=>simp only[AV.cells,List.map_cons,List.map_nil,this]
theorem RepCells.wk {F:Nat->Option Nat} {w:World} {cs:List Value} {a:AV} (h:RepCells F w cs a.cells):RepCells F w cs (wk a).cells:=by
 rcases zZZ a with h1|h1
 ·rw[h1];exact h
 ·rw[h1];refine⟨by rw[h.1,List.length_map],fun j u c hu hc=>?_⟩;rw[List.getElem?_map] at hc;cases hlj:a.cells[j]? with
  | none=>rw[hlj] at hc;simp at hc
  | some c' =>
   rw[hlj] at hc;simp at hc;subst hc;obtain⟨h2,h3⟩:=h.2 j u c' hu hlj;exact⟨zT1 h2,by rw[zJN];exact h3⟩
theorem SlotOk.wks {g:G} {w:World} {s:Nat} {x:SV} {v:Value} (h:SlotOk g w s (rfv x) v):SlotOk g w s (wks x) v:=by
 cases x with
 | v a=>exact wG h
 | box k a =>
  obtain⟨b,cs,E,h1,h2,h3,h4,h5,h6⟩:=h;exact⟨b,cs,E,h1,h2,h3,h4,h5,h6.wk⟩
 | adB _ _ _=>trivial
 | _=>exact h
theorem zL0 {a:Act} {w:World} {x:SV} {s c:Nat} {v:Value} (h:PlaceVal a w (wks x) s c v):PlaceVal a w (rfv x) s c v:=by
 cases x<;>exact h
theorem zVW {g:G} {a:Act} {w:World} {x:SV} {s c:Nat} {v:Value} (hs:SlotOk g w s (rfv x) (a.tmps.getD s undef)) (hp:PlaceVal a w (rfv x) s c v) (hn:zDH x c=true):v = .slice none 0 0:=by
 cases x with
 | v y =>
  cases y<;>simp[zDH] at hn
  subst hn;obtain⟨_,h2⟩:=hp;have:=Rep.nil_eq hs;rw[<-h2,this]
 | box k y =>
  simp only[zDH] at hn;obtain⟨b,cs,E,h1,h2,h3,h4,h5,h6⟩:=hs;obtain⟨b',q1,q2⟩:=hp;rw[h1] at q1;injection q1 with q1;injection q1 with q1;injection q1 with q1
  subst q1;rw[World.cell_of_cells h5] at q2;split at hn
  ·rename_i hc;exact (h6.2 c v .nil (by rw[Array.getElem?_toList];exact q2) hc).1.nil_eq
  ·cases hn
 | _=>exact hp.elim
theorem zOK {g:G} {w:World} {s:Nat} {y x:SV} {v:Value} (h:SlotOk g w s (rfv y) v) (hl:leS y x):SlotOk g w s x v:=by
 unfold leS at hl;split at hl
 ·rcases hl with rfl|hl
  ·have:v = .slice none 0 0:=Rep.nil_eq h;subst this;exact Rep.lit _ rfl
  ·rw[<-hl];exact h.wks
 ·rw[<-hl];exact h.wks
theorem zV6 {a:Act} {w:World} {y x:SV} {s c:Nat} {v:Value} (hl:leS y x) (hp:PlaceVal a w x s c v):PlaceVal a w (rfv y) s c v:=by
 unfold leS at hl;split at hl
 ·rcases hl with rfl|hl
  ·exact hp
  ·rw[<-hl] at hp;exact zL0 hp
 ·rw[<-hl] at hp;exact zL0 hp
theorem Rel.le {cx:Ctx} {g:G} {e:Env} {a:Act} {w:World} (h:Rel cx g e a w) {f:Fr} (hl:le e f):∃g',Rel cx g' (mkE f) a w:=by
 obtain⟨g',h'⟩:=h.refresh;obtain⟨h1,h2,h3⟩:=hl;refine⟨g',{h' with slots:=fun s=>?_,own:=fun s c sz v ho hp=>?_,heap:=?_,heapO:=?_ ,al:=fun b s hb=>h'.al b s hb}⟩
 ·rcases zCL s h1 with q|q
  ·show SlotOk g' w s (yA f.vs s) _;rw[q];trivial
  ·exact zOK (h'.slots s) q
 ·change lookO f.ow s c=sz+1 at ho
  change PlaceVal a w (yA f.vs s) s c v at hp
  have hp':PlaceVal a w (rfv (e.vals s)) s c v:=by
   rcases zCL s h1 with q|q
   ·rw[q] at hp;exact hp.elim
   ·exact zV6 q hp
  rcases zIZ s c h2 with q|q|q
  ·rw[q] at ho;cases ho
  ·have:=zVW (h'.slots s) hp' q;subst this;exact⟨.inl rfl,fun b hb=>by simp[zV] at hb⟩
  ·exact h'.own s c sz v (by show e.own s c=_;rw[q];exact ho) hp'
 ·show HeapIn g'.F w f.hp;rw[<-h3];exact h'.heap
 ·show ∀b∈keys f.hp,_;rw[<-h3];exact h'.heapO
theorem zJ6 (S:Nat->Prop) (h:∃n,S n):∃n,S n/\∀m,S m->n<=m:=by
 obtain⟨n,hn⟩:=h;induction n using Nat.strongRecOn with
 | _ n ih =>
  by_cases h2:∃m,m<n/\S m
  ·obtain⟨m,h3,h4⟩:=h2;exact ih m h3 h4
  ·exact⟨n,hn,fun m hm=>by
    rcases Nat.lt_or_ge m n with h3|h3
    ·exact absurd ⟨m,h3,hm⟩ h2
    ·exact h3⟩
open Classical in
noncomputable def least (S:Nat->Prop):Nat:=if h:∃n,S n then Classical.choose (zJ6 S h) else 0
theorem yX {S:Nat->Prop} (h:∃n,S n):S (least S)/\∀m,S m->least S<=m:=by
 unfold least;rw[dif_pos h];exact Classical.choose_spec (zJ6 S h)
section
variable {P:Program} {T:TT}
theorem zFO {cx:Ctx} {g:G} {e:Env} {a:Act} {w:World} (h:Rel cx g e a w) {c:Operand} {t:Bool} (ho:opd e c = .v (.sb t)):Rel cx g (zTL c t e) a w:=by
 cases c with
 | tmp s =>
  refine h.eqv ⟨fun s'=>?_,fun _ _=>rfl,fun _=>rfl,rfl⟩;show nf (e.vals s')=nf (zBJ e.vals s _ s');by_cases hs:s'=s
  ·subst hs;rw[zW];simp only[opd] at ho;rw[ho];rfl
  ·rw[yQ _ _ hs]
 | _=>exact h
end
def zFH (T:TT) (e:Env):ResultVar->Option AV
 | .tmp t=>match e.vals t with
  | .v a=>some (wk a)
  | _=>none
 | .cell s t=>match find T t,e.vals s with
  | .st n _ _ _,.box _ (.agg l)=>match Nat.beq l.length n with
   | true=>some (wk (.agg l))
   | false=>none
  | .st _ _ _ _,_=>none
  | .other,_=>none
  | _,.box _ a=>match a.cells with
   | [c]=>some (wk c)
   | _=>none
  | _,_=>none
def zGJ (T:TT) (e:Env):ResultVar->Nat
 | .tmp t=>e.own t 0
 | .cell s t=>match find T t with
  | .sl _ _=>e.own s 0
  | _=>0
def qE (T:TT) (e:Env):List ResultVar->Option (List AV)
 | []=>some []
 | r::rs=>match zFH T e r with
  | some a=>match qE T e rs with
   | some l=>some (a::l)
   | none=>none
  | none=>none
def zCN (T:TT) (e:Env) (rs:List ResultVar):Option AV:=match rs with
 | [r]=>zFH T e r
 | rs=>match qE T e rs with
  | some l=>some (.tup l)
  | none=>none
def zWZ (T:TT) (e:Env):List ResultVar->Nat
 | [r]=>zGJ T e r
 | _=>0
def xA (T:TT) (rs:List ResultVar) (post:AV->Nat->List (Nat×HO)->Prop) (e:Env):Prop:=match zCN T e rs with
 | some r=>post r (zWZ T e rs) e.heap
 | none=>False
def zH1 (T:TT) (rs:List ResultVar) (r:AV) (e:Env):Prop:=match zCN T e rs with
 | some r'=>r'=r
 | none=>False
def zJ3 (args : List AV) (os : List Nat) (hin : List (Nat × HO)) : Env :=
  { vals := fun s => match args[s]? with | some a => .v a | none => .undef
    own := fun s c => match c with | 0 => (match os[s]? with | some n => n | none => 0) | _ => 0
    al := fun _ => false
    heap := hin }
def jJ (b:Nat):List Value->List Nat->Nat->Ow
 | v::vs,(_+1)::os,i=>if zV v=some b then .tip i 0 else jJ b vs os (i+1)
 | _::vs,0::os,i=>jJ b vs os (i+1)
 | _,_,_ => .no
theorem xG (b:Nat):∀(vs:List Value) (os:List Nat) (i:Nat),(jJ b vs os i = .no/\b∉zS vs os)∨(∃j,jJ b vs os i = .tip j 0)/\b∈zS vs os
 | [],os,i => .inl ⟨rfl,by simp[zS]⟩
 | _::_,[],i => .inl ⟨rfl,by simp[zS]⟩
 | v::vs,0::os,i=>xG b vs os (i+1)
 | v::vs,(n+1)::os,i=>by
  simp only[jJ,zS];by_cases h:zV v=some b
  ·rw[if_pos h,h];exact .inr ⟨⟨i,rfl⟩,by simp⟩
  ·rw[if_neg h];have hn:b∉(match zV v with|some b=>[b]|none=>[]):=by
    cases hv:zV v with
    | none=>simp
    | some c=>rw[hv] at h;simp;exact fun e=>h (by rw[e])
   rcases xG b vs os (i+1) with⟨h1,h2⟩|⟨h1,h2⟩
   ·exact .inl ⟨h1,fun hm=>(List.mem_append.1 hm).elim hn h2⟩
   ·exact .inr ⟨h1,List.mem_append.2 (.inr h2)⟩
theorem zE5 (b:Nat):∀(vs:List Value) (os:List Nat) (i k:Nat) (v:Value) (sz:Nat),vs[k]? = some v->os[k]? = some (sz+1)->zV v=some b->(zS vs os).Nodup->jJ b vs os i = .tip (i+k) 0
 | [],os,i,k,v,sz,h,_,_,_=>by simp at h
 | _::_,[],i,k,v,sz,_,h,_,_=>by simp at h
 | u::vs,n::os,i,0,v,sz,h1,h2,h3,h4=>by
  simp at h1 h2;subst h1;subst h2;simp only[jJ];rw[if_pos h3];rfl
 | u::vs,0::os,i,k+1,v,sz,h1,h2,h3,h4=>by
  rw[show i+(k+1)=i+1+k by omega];exact zE5 b vs os (i+1) k v sz (by simpa using h1) (by simpa using h2) h3 h4
 | u::vs,(n+1)::os,i,k+1,v,sz,h1,h2,h3,h4=>by
  have hin:∀(vs:List Value) (os:List Nat) (k:Nat),vs[k]? = some v->os[k]? = some (sz+1)->b∈zS vs os:=by
   intro vs;induction vs with
   | nil=>intro os k h;simp at h
   | cons x vs ih =>
    intro os k h1 h2
    match os,k with
    | [],_=>simp at h2
    | o::os,0=>simp at h1 h2;subst h1;subst h2;simp[zS,h3]
    | 0::os,k+1=>exact ih os k (by simpa using h1) (by simpa using h2)
    | (o+1)::os,k+1=>exact List.mem_append.2 (.inr (ih os k (by simpa using h1) (by simpa using h2)))
  have h1':vs[k]? = some v:=by simpa using h1
  have h2':os[k]? = some (sz+1):=by simpa using h2
  simp only[zS] at h4;rw[List.nodup_append] at h4;simp only[jJ];rw[if_neg,show i+(k+1)=i+1+k by omega]
  ·exact zE5 b vs os (i+1) k v sz h1' h2' h3 h4.2.1
  ·intro hu;exact h4.2.2 b (by rw[hu];simp) b (hin vs os k h1' h2') rfl
section
variable {P:Program} {T:TT}
theorem wV {F : Nat -> Option Nat} {w : World} {vs : List Value} {args : List AV} {os : List Nat} {hin : List (Nat × HO)} (hfr : Fresh F w) (hh : HeapIn F w hin) (ha : qQ F w vs args os) (hy : ∀ b ∈ zS vs os, b ∉ keys hin) {n : Nat} (hn : vs.length <= n) :
    ∃ g, Rel { n := n, W := w, F := F, hk := keys hin, yk := zS vs os } g (zJ3 args os hin) { tmps := vs.toArray ++ Array.replicate (n - vs.toArray.size) undef, defers := [] } w := by
  have get : ∀ s, (vs.toArray ++ Array.replicate (n - vs.toArray.size) undef).getD s undef = (vs[s]?).getD undef := fun s => by
    rw [Array.getD_eq_getD_getElem?, Array.getElem?_append];split
    · simp
    · rename_i h
      simp only [List.size_toArray] at h;rw [List.getElem?_eq_none (by omega)];rw [Array.getElem?_replicate];split <;> rfl
  have tipH : ∀ (k : Nat) v sz b, vs[k]? = some v -> os[k]? = some (sz + 1) -> zV v = some b -> b < w.heap.size := fun k v sz b h1 h2 h3 => by
    rcases ha.tip k v sz h1 h2 with h | ⟨a, m, h⟩ | ⟨b2, off, m, cap, cs, E, h, _, _, h5, _⟩
    · subst h; simp [zV] at h3
    · subst h; cases a <;> simp [zV] at h3
    · subst h; have := zB0 h3; subst this; exact zL h5
  have ykH : ∀ b ∈ zS vs os, b < w.heap.size := by
    have : ∀ (vs : List Value) (os : List Nat) b, b ∈ zS vs os -> ∃ (k : Nat) (v : Value) (sz : Nat), vs[k]? = some v /\ os[k]? = some (sz + 1) /\ zV v = some b := by
      intro vs;induction vs with
      | nil => intro os b h; simp [zS] at h
      | cons x vs ih =>
        intro os b h
        match os with
        | [] => simp [zS] at h
        | 0 :: os =>
          obtain ⟨k, v, sz, p1, p2, p3⟩ := ih os b (by simpa [zS] using h);exact ⟨k + 1, v, sz, by simpa using p1, by simpa using p2, p3⟩
        | (m + 1) :: os =>
          simp only [zS] at h;rcases List.mem_append.1 h with h | h
          · cases hx : zV x with
            | none => rw [hx] at h; simp at h
            | some c => rw [hx] at h; simp at h; subst h; exact ⟨0, x, m, rfl, rfl, hx⟩
          · obtain ⟨k, v, sz, p1, p2, p3⟩ := ih os b h
            exact ⟨k + 1, v, sz, by simpa using p1, by simpa using p2, p3⟩
    intro b hb;obtain ⟨k, v, sz, p1, p2, p3⟩ := this vs os b hb;exact tipH k v sz b p1 p2 p3
  have keyH : ∀ b ∈ keys hin, b < w.heap.size := fun b hb => by
    obtain ⟨x, hx, rfl⟩ := List.mem_map.1 hb;exact (hh.ok x hx).lt
  refine ⟨{ F := F, O := fun b => if b ∈ keys hin then .obj else jJ b vs os 0 }, ?_⟩
  refine { size := by simp; omega, defers := rfl, kept := ⟨rfl, rfl, rfl, Nat.le_refl _, fun _ _ => .inr (.inr rfl)⟩, fext := fun _ _ => .inl rfl, nbx := fun b s q hb ho => by (simp only [] at ho; split at ho; (cases ho); rcases xG b vs os 0 with ⟨h9, _⟩ | ⟨⟨_, h9⟩, _⟩ <;> (rw [h9] at ho; cases ho)), old := fun b hb h1 => ?_, hkO := keyH, hkin := fun b _ ho => ?_, fresh := hfr, freshO := fun b hb => ?_,
           slots := fun s => ?_, own := fun s c sz v ho hp => ?_, heap := hh, heapO := fun b hb => by have hb : b ∈ keys hin := hb; simp only []; rw [if_pos hb], al := fun b s hb => ?_ }
  · simp only []
    by_cases hk : b ∈ keys hin
    · rw [if_pos hk]; exact .inr ⟨hk, rfl⟩
    · rw [if_neg hk]
      rcases xG b vs os 0 with ⟨h2, _⟩ | ⟨_, h2⟩
      · exact .inl h2
      · exact absurd h2 h1
  · simp only [] at ho
    split at ho
    · assumption
    · rcases xG b vs os 0 with ⟨h2, _⟩ | ⟨⟨j, h2⟩, _⟩ <;> (rw [h2] at ho; cases ho)
  · simp only []
    rw [if_neg (fun h => by have := keyH b h; omega)];rcases xG b vs os 0 with ⟨h2, _⟩ | ⟨_, h2⟩
    · exact h2
    · have := ykH b h2; omega
  · show SlotOk _ w s (match args[s]? with | some a => .v a | none => .undef) ((vs.toArray ++ Array.replicate (n - vs.toArray.size) undef).getD s undef)
    rw [get s];cases hs : args[s]? with
    | none =>
      have : vs[s]? = none := by
        rw [List.getElem?_eq_none_iff] at hs ⊢;rw [ha.len]; exact hs
      rw [this]; rfl
    | some a =>
      have hlt : s < vs.length := by rw [ha.len]; exact (List.getElem?_eq_some_iff.1 hs).1
      rw [List.getElem?_eq_getElem hlt];exact ha.rep s _ a (List.getElem?_eq_getElem hlt) hs
  · have ho' : c = 0 /\ os[s]? = some (sz + 1) := by
      unfold zJ3 at ho;cases c with
      | zero =>
        simp only [] at ho;refine ⟨rfl, ?_⟩;cases hs : os[s]? with
        | none => rw [hs] at ho; cases ho
        | some m => rw [hs] at ho; simp only [] at ho; rw [ho]
      | succ c => cases ho
    obtain ⟨rfl, hos⟩ := ho'
    change PlaceVal _ w (match args[s]? with | some a => .v a | none => .undef) s 0 v at hp
    cases hs : args[s]? with
    | none => rw [hs] at hp; exact hp.elim
    | some a =>
      rw [hs] at hp;obtain ⟨_, hv⟩ := hp
      change (vs.toArray ++ Array.replicate (n - vs.toArray.size) undef).getD s undef = v at hv
      rw [get s] at hv;have hlt : s < vs.length := by rw [ha.len]; exact (List.getElem?_eq_some_iff.1 hs).1
      rw [List.getElem?_eq_getElem hlt] at hv;simp only [Option.getD_some] at hv;subst hv;refine ⟨ha.tip s _ sz (List.getElem?_eq_getElem hlt) hos, fun b hb => ?_⟩;have hby : jJ b vs os 0 = .tip (0 + s) 0 := zE5 b vs os 0 s _ sz (List.getElem?_eq_getElem hlt) hos hb ha.apart;have hbk : b ∉ keys hin := by
        rcases xG b vs os 0 with ⟨h2, _⟩ | ⟨_, h2⟩
        · rw [hby] at h2; cases h2
        · exact hy b h2
      simp only [];rw [if_neg hbk, hby, Nat.zero_add]
  · simp only [] at hb
    split at hb
    · cases hb
    · rcases xG b vs os 0 with ⟨h2, _⟩ | ⟨⟨j, h2⟩, _⟩ <;> (rw [h2] at hb; cases hb)
def zAQ (tmps:Array Value):ResultVar->Sem Value
 | .tmp t=>pure (tmps.getD t undef)
 | .cell a t=>do loadVar t (<-asAddr (tmps.getD a undef))
theorem res_one (hT:zN P T) {cx:Ctx} {g:G} {e:Env} {a:Act} {w:World} (hR:Rel cx g e a w) {r:ResultVar} {y:AV} (h:zFH T e r=some y) :
  ∃v,(zAQ a.tmps r).run P w = .ok v w/\Rep g.F w v y/\∀sz,zGJ T e r=sz+1->TipA g.F w sz v/\∀b,zV v=some b->∃s,g.O b = .tip s 0:=by
 cases r with
 | tmp t =>
  simp only[zFH] at h;cases hx:e.vals t with
  | v b =>
   rw[hx] at h;injection h with h;subst h
   have hs:=hR.slots t;rw[hx] at hs;refine⟨_,rfl,wG hs,fun sz ho=>?_⟩;have:=hR.own t 0 sz _ ho (by rw[hx];exact⟨rfl,rfl⟩);exact⟨this.1,fun b hb=>⟨t,this.2 b hb⟩⟩
  | _=>rw[hx] at h;cases h
 | cell s t =>
  have boxd:∀{k:Nat} {x:AV},e.vals s = .box k x->∃b cs E,a.tmps.getD s undef = .pointer (some ⟨b,0,none⟩)/\w.heap[b]? = some (.cells cs E (0,0))/\RepCells g.F w cs.toList x.cells /\
    ∀v,w.cell? ⟨b,0,none⟩=some v->∀sz,zGJ T e (.cell s t)=sz+1->TipA g.F w sz v/\∀b,zV v=some b->∃s,g.O b = .tip s 0:=fun {k x} hx=>by
   obtain⟨b,cs,E,h1,h2,h3,h4,h5,h6⟩:=hR.boxAt hx;refine⟨b,cs,E,h1,h5,h6,fun v hv sz ho=>?_⟩;have ho:e.own s 0=sz+1:=by
    simp only[zGJ] at ho;split at ho
    ·exact ho
    ·cases ho
   have:=hR.own s 0 sz v ho (by rw[hx];exact⟨b,h1,hv⟩);exact⟨this.1,fun b hb=>⟨s,this.2 b hb⟩⟩
  have run:∀{b:Nat},a.tmps.getD s undef = .pointer (some ⟨b,0,none⟩)->(zAQ a.tmps (.cell s t)).run P w=(Instr.loadAt t (.pointer (some ⟨b,0,none⟩))).run P w:=fun {b} hb=>by
   simp only[zAQ,hb,asAddr,Instr.loadAt,Instr.sureAddr,Sem.run_bind,Sem.run_pure,Result.andThen_ok]
  have scal:(∀n offs fts z,find T t≠.st n offs fts z)->find T t≠.other->∀(k:Nat) (x:AV),e.vals s = .box k x->(match x.cells with|[c]=>some (wk c)|_=>none)=some y ->
    ∃v,(zAQ a.tmps (.cell s t)).run P w = .ok v w/\Rep g.F w v y/\∀sz,zGJ T e (.cell s t)=sz+1->TipA g.F w sz v/\∀b,zV v=some b->∃s,g.O b = .tip s 0:=fun hns hno k x hx h=>by
   obtain⟨b,cs,E,h1,h5,h6,ho⟩:=boxd hx;split at h
   ·rename_i c hc;injection h with h;subst h
    obtain⟨u,q1,q2,q3⟩:=xM h5 h6 (j:=0) (c:=c) (by rw[hc];rfl);exact⟨u,by rw[run h1];exact zBS hT hns hno q1,wG q2,ho u q1⟩
   ·cases h
  simp only[zFH] at h;split at h
  ·rename_i n offs fts z k l hf hx;split at h
   ·rename_i hl;injection h with h;subst h
    have hl:=Nat.eq_of_beq_eq_true hl;obtain⟨b,cs,E,h1,h5,h6,ho⟩:=boxd hx;obtain⟨us,q1,q2⟩:=zBZ (P:=P) hT hf (F:=g.F) (w:=w) (b:=b) (off:=0) (l:=l) (by omega) (fun j c hj=>by
     rw[Nat.zero_add];exact xM h5 h6 hj)
    refine⟨.agg us,by rw[run h1];exact q1,?_,fun sz hsz=>?_⟩
    ·rw[<-hl,List.take_length] at q2;exact wG q2
    ·simp only[zGJ,hf] at hsz;cases hsz
   ·cases h
  ·cases h
  ·cases h
  ·rename_i hx hA hns hno;exact scal hns hno _ _ hx h
  ·cases h
theorem zO8 (hT:zN P T) {cx:Ctx} {g:G} {e:Env} {a:Act} {w:World} (hR:Rel cx g e a w):∀{rs:List ResultVar} {l:List AV},qE T e rs=some l ->
  ∃vs:List Value,(rs.mapM (zAQ a.tmps)).run P w = .ok vs w/\vs.length=l.length/\∀(j:Nat) u c,vs[j]? = some u->l[j]? = some c->Rep g.F w u c
 | [],l,h=>by
  simp only[qE,Option.some.injEq] at h;subst h;exact⟨[],by simp,rfl,fun j u c hu=>by simp at hu⟩
 | r::rs,l,h=>by
  simp only[qE] at h;split at h
  ·rename_i y hy;split at h
   ·rename_i l' hl;injection h with h;subst h
    obtain⟨v,p1,p2,_⟩:=res_one hT hR hy;obtain⟨vs,q1,q2,q3⟩:=zO8 hT hR hl;refine⟨v::vs,?_,by simp[q2],fun j u c hu hc=>?_⟩
    ·simp only[List.mapM_cons,Sem.run_bind,p1,Result.andThen_ok,q1,Sem.run_pure]
    ·match j with
     | 0=>simp at hu hc;subst hu;subst hc;exact p2
     | j+1=>exact q3 j u c (by simpa using hu) (by simpa using hc)
   ·cases h
  ·cases h
theorem zER (fn:Func) (tmps:Array Value):results fn tmps=(do
  let vs <-fn.results.toList.mapM (zAQ tmps)
  pure (if h:vs.toArray.size=1 then vs.toArray[0] else .tuple vs.toArray)):=by
 have h1:fn.results.mapM (zAQ tmps)=List.toArray <$> fn.results.toList.mapM (zAQ tmps):=by
  rw[<-List.mapM_toArray]
 have h2:results fn tmps=(do
  let vs <-fn.results.mapM (zAQ tmps)
  pure (if h:vs.size=1 then vs[0] else .tuple vs)):=by
  unfold results
  congr 1
 rw[h2,h1];simp only[map_eq_pure_bind,bind_assoc,pure_bind]
theorem wM (hT:zN P T) {cx:Ctx} {g:G} {e:Env} {a:Act} {w:World} (hR:Rel cx g e a w) {fn:Func} {r:AV} (h:zCN T e fn.results.toList=some r) :
  ∃v,(results fn a.tmps).run P w = .ok v w/\Rep g.F w v r/\∀sz,zWZ T e fn.results.toList=sz+1->TipA g.F w sz v/\∀b,zV v=some b->∃s,g.O b = .tip s 0:=by
 rw[zER];generalize fn.results.toList=rs at h
 match rs with
 | [x] =>
  obtain⟨v,p1,p2,p3⟩:=res_one hT hR (r:=x) h;refine⟨v,?_,p2,p3⟩;simp only[List.mapM_cons,List.mapM_nil,Sem.run_bind,p1,Result.andThen_ok,Sem.run_pure]
  rfl
 | [] =>
  simp only[zCN,qE,Option.some.injEq] at h;subst h;refine⟨.tuple #[],?_,.tup #[] [] rfl (fun j u c hu=>by simp at hu),fun sz h=>by cases h⟩;simp only[List.mapM_nil,Sem.run_bind,Sem.run_pure,Result.andThen_ok]
  rfl
 | x::y::rs =>
  simp only[zCN] at h;split at h
  ·rename_i l hl;injection h with h;subst h
   obtain⟨vs,q1,q2,q3⟩:=zO8 hT hR hl;have hlen:vs.length=rs.length+2:=by
    rw[q2];have:∀{rs:List ResultVar} {l:List AV},qE T e rs=some l->l.length=rs.length:=by
     intro rs;induction rs with
     | nil=>intro l h;simp only[qE,Option.some.injEq] at h;subst h;rfl
     | cons r rs ih =>
      intro l h;simp only[qE] at h;split at h
      ·split at h
       ·rename_i hl;injection h with h;subst h;simp[ih hl]
       ·cases h
      ·cases h
    have:=this hl;simpa using this
   refine⟨.tuple vs.toArray,?_,.tup _ _ (by simpa using q2) (fun j u c hu hc=>q3 j u c (by simpa using hu) hc),fun sz h=>by cases h⟩;simp only[Sem.run_bind,q1,Result.andThen_ok,Sem.run_pure];rw[dif_neg];simp[hlen]
  ·cases h
theorem zC7:∀(vs cap:List Value) (os:List Nat),os.length<=vs.length->zS (vs++cap) os=zS vs os
 | vs,cap,[],_=>by cases vs<;>cases cap<;>rfl
 | [],cap,o::os,h=>by simp at h
 | v::vs,cap,0::os,h=>zC7 vs cap os (by simpa using h)
 | v::vs,cap,(n+1)::os,h=>by simp only[List.cons_append,zS];rw[zC7 vs cap os (by simpa using h)]
theorem zB3:∀(first vs:List Value) (os:List Nat),zS (first++vs) (List.replicate first.length 0++os)=zS vs os
 | [],vs,os=>rfl
 | v::first,vs,os=>zB3 first vs os
end
end Fp
