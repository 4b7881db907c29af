/- Regions whose order is open, once more: what each operation reads and writes is told with it. No condition. -/
import Derived.Test.YtebmimnglcdogaaGreatDoorFpE
import Derived.MapKept
set_option linter.unusedSimpArgs false
set_option linter.unusedVariables false
namespace Fp
open Go
section
variable {P:Program} {arr:Array Oper} {o:Oper} {e:Env} {T:TT}
def RunsB (P:Program) (o:Oper) (e:Env) (u:List U) (m:Nat):Prop :=
 ∀cx e' g a w,(∀d,o.dst=some d->d<cx.n)->Agree m e e'->Rel cx g e' a w->∀(K:Act->World->Prop) (Q:Exit->Act->World->Prop),
  (∀g' a' w',Rel cx g' (app e' u) a' w'->K a' w')->o.wp P a w K Q
theorem RunsB.agree {u:List U} {m:Nat} {e e':Env} (h:RunsB P o e u m) (q:Agree m e' e):RunsB P o e' u m:=fun cx e2 g a w hd hag hR=>h cx e2 g a w hd (q.symm.trans hag) hR
def StepB (P:Program) (arr:Array Oper) (o:Oper) (e:Env) (u:List U) (m:Nat×Nat):Prop :=
 Sub (wrU u) m.2/\Sub (zY arr.toList o) m.1/\((Wants arr o e true/\RunsB P o e u m.1)∨(Wants arr o e false/\u=putU o.dst .undef))
theorem StepB.agree {u:List U} {m:Nat×Nat} {e e':Env} (h:StepB P arr o e u m) (q:Agree m.1 e' e):StepB P arr o e' u m :=
 ⟨h.1,h.2.1,h.2.2.imp (fun k=>⟨k.1.agree (q.sub h.2.1),k.2.agree q⟩) (fun k=>⟨k.1.agree (q.sub h.2.1),k.2⟩)⟩
def zQH:List Oper->List (Nat×Nat)->List Nat->List (Nat×Nat)->Bool
 | [],_,_,_=>true
 | o::r,m::bs,ms,acc=>zBY ms.length o.after.toList && (zAV (qJ ms o.after.toList) m.1 m.2 0 acc && zQH r bs (ms++[qJ ms o.after.toList]) (acc++[m]))
 | _::_,[],_,_=>false
def zMD (ops:List Oper) (bs:List (Nat×Nat)):Bool:=zQH ops bs [] []
structure zIS (ops:List Oper) (B:List (Nat×Nat)):Prop where
 back:∀(j:Nat) o,ops[j]? = some o->∀e∈o.after.toList,Region.binds .any e=true->e.on<j
 clash:∀(i j:Nat) oj mi mj,i<j->ops[j]? = some oj->B[i]? = some mi->B[j]? = some mj->clash mi.1 mi.2 mj.1 mj.2=true ->
  ∀L:Array Bool,(∀(k:Nat) o,ops[k]? = some o->L.getD k false=true->∀e∈o.after.toList,Region.binds .any e=true->L.getD e.on false=true) ->
   (∀e∈oj.after.toList,Region.binds .any e=true->L.getD e.on false=true)->L.getD i false=true
theorem zKF {ops:List Oper} {B:List (Nat×Nat)}:∀(r done:List Oper) (bs acc:List (Nat×Nat)) (ms:List Nat),ops=done++r->B=acc++bs->acc.length=done.length->ms.length=done.length ->
  (∀L:Array Bool,(∀(k:Nat) o,ops[k]? = some o->L.getD k false=true->∀e∈o.after.toList,Region.binds .any e=true->L.getD e.on false=true)->∀(k:Nat) m,ms[k]? = some m->L.getD k false=true->zNI L m) ->
  zQH r bs ms acc=true->∀(t:Nat) o,r[t]? = some o ->
   (∀e∈o.after.toList,Region.binds .any e=true->e.on<done.length+t) /\
   ∀(i:Nat) mi mj,i<done.length+t->B[i]? = some mi->B[done.length+t]? = some mj->clash mi.1 mi.2 mj.1 mj.2=true ->
    ∀L:Array Bool,(∀(k:Nat) o,ops[k]? = some o->L.getD k false=true->∀e∈o.after.toList,Region.binds .any e=true->L.getD e.on false=true) ->
     (∀e∈o.after.toList,Region.binds .any e=true->L.getD e.on false=true)->L.getD i false=true
 | [],_,_,_,_,_,_,_,_,_,_,t,o,ht=>by simp at ht
 | x::r,done,[],acc,ms,hops,hB,hacc,hms,hin,h,t,o,ht=>by simp[zQH] at h
 | x::r,done,m::bs,acc,ms,hops,hB,hacc,hms,hin,h,t,o,ht=>by
  simp only[zQH,Bool.and_eq_true] at h;obtain⟨h1,h2,h3⟩:=h
  match t with
  | 0 =>
   simp only[List.getElem?_cons_zero,Option.some.injEq] at ht;subst ht;refine⟨fun e he hb=>by rw[<-hms];exact zAU h1 e he hb,fun i mi mj hi hmi hmj hc L hL hl=>?_⟩;have hm:mj=m:=by
    rw[hB,Nat.add_zero,<-hacc,List.getElem?_append_right (Nat.le_refl _)] at hmj;simpa using hmj.symm
   subst hm;have hai:acc[i]? = some mi:=by
    rw[hB,List.getElem?_append_left (by omega)] at hmi;exact hmi
   have:=jY h2 i _ hai hc;rw[Nat.zero_add] at this;exact jP (hin L hL) hl i this
  | t+1 =>
   have:=zKF (ops:=ops) (B:=B) r (done++[x]) bs (acc++[m]) _ (by rw[hops];simp) (by rw[hB];simp) (by simp[hacc]) (by simp[hms]) (fun L hL k m hk hlk=>?_) h3 t o (by simpa using ht)
   ·simp only[List.length_append,List.length_cons,List.length_nil] at this;rw[show done.length+(t+1)=done.length+(0+1)+t by omega];exact this
   ·rcases Nat.lt_or_ge k ms.length with hlt|hge
    ·rw[List.getElem?_append_left hlt] at hk;exact hin L hL k m hk hlk
    ·rw[List.getElem?_append_right hge] at hk;have hk0:k-ms.length=0:=by
      have:=(List.getElem?_eq_some_iff.1 hk).1;simp at this;omega
     rw[hk0] at hk;simp only[List.getElem?_cons_zero,Option.some.injEq] at hk;subst hk;have hkk:k=done.length:=by omega
     subst hkk;have hox:ops[done.length]? = some x:=by rw[hops];simp
     exact jP (hin L hL) (hL _ x hox hlk)
theorem zE6 {ops:List Oper} {B:List (Nat×Nat)} (h:zMD ops B=true):zIS ops B:=by
 have:=zKF (ops:=ops) (B:=B) ops [] B [] [] rfl rfl rfl rfl (fun L _ k m hk=>by simp at hk) h;refine⟨fun j o hj e he hb=>?_,fun i j oj mi mj hij hj hi hmj hc=>?_⟩
 ·have:=(this j o hj).1 e he hb;simpa using this
 ·exact (this j oj hj).2 i mi mj (by simpa using hij) hi (by simpa using hmj) hc
end
section
variable {P:Program} {hp:Bool} {arr:Array Oper} {o:Oper} {e:Env} {k:List U->Prop} {T:TT}
theorem zGX:∀(is:List Nat) (n:Nat) (h:List (Nat×HO)) (j:Nat) (x:Nat×HO),h[j]? = some x->n+j∈is∨x∈wX is n h
 | is,n,[],j,x,hj=>by simp at hj
 | is,n,y::r,j,x,hj=>by
  simp only[wX]
  match j with
  | 0 =>
   simp at hj;subst hj;cases hb:is.any (Nat.beq n) with
   | true =>
    obtain⟨m,hm,he⟩:=List.any_eq_true.1 hb;have:=Nat.eq_of_beq_eq_true he;subst this;exact .inl hm
   | false=>exact .inr List.mem_cons_self
  | j+1 =>
   have:=zGX is (n+1) r j x (by simpa using hj);rw[show n+1+j=n+(j+1) by omega] at this;refine this.imp id fun h=>?_;cases is.any (Nat.beq n)
   ·exact List.mem_cons_of_mem _ h
   ·exact h
theorem zPR:∀{is:List Nat} {h hin:List (Nat×HO)},xK is h=some hin->∀i∈is,∀x,h[i]? = some x->x∈hin
 | [],_,_,_,i,hi,_,_=>by simp at hi
 | a::is,h,hin,ht,i,hi,x,hx=>by
  simp only[xK] at ht;split at ht
  ·rename_i y l h1 h2;injection ht with ht
   subst ht;rcases List.mem_cons.1 hi with rfl|hi
   ·rw[h1] at hx;injection hx with hx;subst hx;exact List.mem_cons_self
   ·exact List.mem_cons_of_mem _ (zPR h2 i hi x hx)
  ·cases ht
theorem zUU {F:Nat->Option Nat} {w:World} {is:List Nat} {h hin:List (Nat×HO)} (ht:xK is h=some hin) (hn:(keys h).Nodup) (hh:HeapIn F w (yF is h++hin)):HeapIn F w h/\∀b∈keys h,b∈keys (yF is h++hin):=by
 have hm:∀x∈h,x∈yF is h++hin:=fun x hx=>by
  obtain⟨j,hj⟩:=List.getElem?_of_mem hx;rcases zGX is 0 h j x hj with h1|h1
  ·rw[Nat.zero_add] at h1;exact List.mem_append_right _ (zPR ht j h1 x hj)
  ·exact List.mem_append_left _ h1
 have hk:∀b∈keys h,b∈keys (yF is h++hin):=fun b hb=>by
  obtain⟨x,hx,rfl⟩:=List.mem_map.1 hb;exact List.mem_map_of_mem (hm x hx)
 exact⟨⟨hn,fun b hb=>hh.shut b (hk b hb),fun x hx=>hh.ok x (hm x hx)⟩,hk⟩
def zJ4:List Nat->List (Nat×HO)->List (Nat×HO)->List (Nat×HO)
 | i::is,x::xs,h=>zJ4 is xs (h.set i x)
 | _,_,h=>h
theorem zMN:∀{is:List Nat} {h hin hout:List (Nat×HO)},xK is h=some hin->keys hout=keys hin->is.Nodup ->
  keys (zJ4 is hout h)=keys h/\∀(j:Nat) x,(zJ4 is hout h)[j]? = some x->(j∈is/\x∈hout)∨(j∉is/\h[j]? = some x)
 | [],h,hin,hout,ht,hk,_=>by
  simp only[xK,Option.some.injEq] at ht;subst ht;cases hout with
  | nil=>exact⟨rfl,fun j x hx => .inr ⟨by simp,hx⟩⟩
  | cons y l=>simp[keys] at hk
 | a::is,h,hin,hout,ht,hk,hn=>by
  simp only[xK] at ht;split at ht
  ·rename_i y l h1 h2;injection ht with ht
   subst ht;cases hout with
   | nil=>simp[keys] at hk
   | cons z zs =>
    simp only[keys,List.map_cons,List.cons.injEq] at hk;obtain⟨hk1,hk2⟩:=hk;obtain⟨n1,n2⟩:=List.nodup_cons.1 hn;have ht':xK is (h.set a z)=some l:=by
     have:∀{is:List Nat} {l:List (Nat×HO)},a∉is->xK is h=some l->xK is (h.set a z)=some l:=by
      intro is;induction is with
      | nil=>intro l _ h;exact h
      | cons i is ih =>
       intro l hna h;simp only[List.mem_cons,not_or] at hna;simp only[xK] at h⊢;split at h
       ·rename_i u v e1 e2;injection h with h
        subst h;rw[List.getElem?_set_ne (fun e=>hna.1 e),e1,ih hna.2 e2]
       ·cases h
     exact this n1 h2
    obtain⟨p1,p2⟩:=zMN (is:=is) (h:=h.set a z) (hin:=l) (hout:=zs) ht' hk2 n2;have hks:keys (h.set a z)=keys h:=by
     have ha:=(List.getElem?_eq_some_iff.1 h1)
     unfold keys;rw[List.map_set];refine List.ext_getElem? fun j=>?_;by_cases hj:a=j
     ·subst hj;rw[List.getElem?_set_self (by simpa using ha.1),List.getElem?_map,h1];simp[hk1]
     ·rw[List.getElem?_set_ne hj]
    refine⟨p1.trans hks,fun j x hx=>?_⟩;rcases p2 j x hx with⟨q1,q2⟩|⟨q1,q2⟩
    ·exact .inl ⟨List.mem_cons_of_mem _ q1,List.mem_cons_of_mem _ q2⟩
    ·by_cases hj:a=j
     ·subst hj;rw[List.getElem?_set_self ((List.getElem?_eq_some_iff.1 h1).1)] at q2;injection q2 with q2
      subst q2;exact .inl ⟨List.mem_cons_self,List.mem_cons_self⟩
     ·rw[List.getElem?_set_ne hj] at q2;exact .inr ⟨by simp[q1,Ne.symm hj],q2⟩
  ·cases ht
theorem heap_put {F:Nat->Option Nat} {w:World} {is:List Nat} {h hin hout:List (Nat×HO)} (ht:xK is h=some hin) (hk:keys hout=keys hin) (hi:is.Nodup) (hn:(keys h).Nodup) (hh:HeapIn F w (yF is h++hout)) :
  HeapIn F w (zJ4 is hout h)/\∀b∈keys (zJ4 is hout h),b∈keys (yF is h++hout):=by
 obtain⟨p1,p2⟩:=zMN ht hk hi;have hm:∀x∈zJ4 is hout h,x∈yF is h++hout:=fun x hx=>by
  obtain⟨j,hj⟩:=List.getElem?_of_mem hx;rcases p2 j x hj with⟨_,q2⟩|⟨q1,q2⟩
  ·exact List.mem_append_right _ q2
  ·rcases zGX is 0 h j x q2 with h1|h1
   ·rw[Nat.zero_add] at h1;exact absurd h1 q1
   ·exact List.mem_append_left _ h1
 have hk':∀b∈keys (zJ4 is hout h),b∈keys (yF is h++hout):=fun b hb=>by
  obtain⟨x,hx,rfl⟩:=List.mem_map.1 hb;exact List.mem_map_of_mem (hm x hx)
 exact⟨⟨by rw[p1];exact hn,fun b hb=>hh.shut b (hk' b hb),fun x hx=>hh.ok x (hm x hx)⟩,hk'⟩
theorem zUZ {c:Call} {f:Operand} (ho:o.op = .call c) (hc:c.callee = .value f) {fv:Value} (hf:opd e f = .v (.lit fv)) {args:List AV} (ha:opds e c.args.toList=some args) {is:List Nat} {hin:List (Nat×HO)} (ht:xK is e.heap=some hin) (hi:is.Nodup) {r:AV}
  (hcall:CallsG P fv hin args [] fun r' n h=>r'=r/\n=0/\h=hin):RunsB P o e (putU o.dst (.v r)) (rd arr.toList false o ||| 8):=by
 intro cx e' g ac w hd hag hR K Q hK;have hs:Sub (zJ f ||| zG c.args.toList) (rd arr.toList false o ||| 8):=by
  refine Sub.trans ?_ Sub.inl;unfold rd;rw[ho];simp only[hc];exact (Sub.or Sub.inl (Sub.trans Sub.inl Sub.inr)).trans Sub.inr
 have hheap:=hag.heap ((Sub.inr:Sub 8 (rd arr.toList false o ||| 8)) 3 (by decide));rw[hheap] at ht;have hos:∀(e:Env) (l:List Operand),wR e l []=true:=fun e l=>by cases l<;>rfl
 have hlo:∀l:List Operand,lose l []=[]:=fun l=>by
  cases l with
  | nil=>rfl
  | cons a r=>cases a<;>rfl
 refine zDQ hag hR ho hc hs.or_left hs.or_right hd hf ha (os:=[]) ht hi (hos _ _) hcall fun r' n hout g' a' w' hpost hR'=>?_;obtain⟨rfl,rfl,rfl⟩:=hpost;refine hK g' a' w' ?_;rw[hlo,List.nil_append] at hR';have hold:(keys e'.heap).Nodup:=hR.heap.nodup;have hh:HeapIn g'.F w' (yF is e'.heap++hout):=by
  have h1:(app e' (putU o.dst (.v r')++(zBX o.dst 0++[.heap (yF is e'.heap++hout)]))).heap=yF is e'.heap++hout:=by
   rw[yG,yG];rfl
  rw[<-h1];exact hR'.heap
 have hO:∀b∈keys (yF is e'.heap++hout),g'.O b = .obj:=fun b hb=>by
  have h1:(app e' (putU o.dst (.v r')++(zBX o.dst 0++[.heap (yF is e'.heap++hout)]))).heap=yF is e'.heap++hout:=by
   rw[yG,yG];rfl
  exact hR'.heapO b (by rw[h1];exact hb)
 obtain⟨b1,b2⟩:=zUU ht hold hh;have hfin:=hR'.heapTo b1 (fun b hb=>hO b (b2 b hb));have heq:app (app e' (putU o.dst (.v r')++(zBX o.dst 0++[.heap (yF is e'.heap++hout)]))) [.heap e'.heap]=app e' (putU o.dst (.v r')):=by
  cases o.dst with
  | none=>rfl
  | some d =>
   refine Env.ext' (fun _=>rfl) (fun s c=>?_) (fun _=>rfl) rfl;show (bif Nat.beq s d && Nat.beq c 0 then 0 else bif Nat.beq s d then 0 else e'.own s c)=(bif Nat.beq s d then 0 else e'.own s c);cases Nat.beq s d<;>cases Nat.beq c 0<;>rfl
 rw[heq] at hfin;exact hfin
theorem zS5 {c:Call} {f:Operand} (ho:o.op = .call c) (hc:c.callee = .value f) {fv:Value} (hf:opd e f = .v (.lit fv)) {args:List AV} (ha:opds e c.args.toList=some args) {is:List Nat} {hin h0:List (Nat×HO)} (ht:xK is e.heap=some hin) (hi:is.Nodup) (hk0:keys h0=keys hin) {r:AV}
  (hcall:CallsG P fv hin args [] fun r' n h=>r'=r/\n=0/\h=h0):RunsB P o e (putU o.dst (.v r)++[.heap (zJ4 is h0 e.heap)]) (rd arr.toList false o ||| 8):=by
 intro cx e' g ac w hd hag hR K Q hK;have hs:Sub (zJ f ||| zG c.args.toList) (rd arr.toList false o ||| 8):=by
  refine Sub.trans ?_ Sub.inl;unfold rd;rw[ho];simp only[hc];exact (Sub.or Sub.inl (Sub.trans Sub.inl Sub.inr)).trans Sub.inr
 have hheap:=hag.heap ((Sub.inr:Sub 8 (rd arr.toList false o ||| 8)) 3 (by decide));rw[hheap] at ht;have hos:∀(e:Env) (l:List Operand),wR e l []=true:=fun e l=>by cases l<;>rfl
 have hlo:∀l:List Operand,lose l []=[]:=fun l=>by
  cases l with
  | nil=>rfl
  | cons a r=>cases a<;>rfl
 refine zDQ hag hR ho hc hs.or_left hs.or_right hd hf ha (os:=[]) ht hi (hos _ _) hcall fun r' n hout g' a' w' hpost hR'=>?_;obtain⟨rfl,rfl,rfl⟩:=hpost;refine hK g' a' w' ?_;rw[hlo,List.nil_append] at hR';have hold:(keys e'.heap).Nodup:=hR.heap.nodup;have h1:(app e' (putU o.dst (.v r')++(zBX o.dst 0++[.heap (yF is e'.heap++hout)]))).heap=yF is e'.heap++hout:=by
  rw[yG,yG];rfl
 have hh:HeapIn g'.F w' (yF is e'.heap++hout):=by rw[<-h1];exact hR'.heap
 have hO:∀b∈keys (yF is e'.heap++hout),g'.O b = .obj:=fun b hb=>hR'.heapO b (by rw[h1];exact hb);obtain⟨b1,b2⟩:=heap_put ht hk0 hi hold hh;have hfin:=hR'.heapTo b1 (fun b hb=>hO b (b2 b hb));rw[hheap];have heq:app (app e' (putU o.dst (.v r')++(zBX o.dst 0++[.heap (yF is e'.heap++hout)]))) [.heap (zJ4 is hout e'.heap)]=app e' (putU o.dst (.v r')++[.heap (zJ4 is hout e'.heap)]):=by
  cases o.dst with
  | none=>rfl
  | some d =>
   refine Env.ext' (fun _=>rfl) (fun s c=>?_) (fun _=>rfl) rfl;show (bif Nat.beq s d && Nat.beq c 0 then 0 else bif Nat.beq s d then 0 else e'.own s c)=(bif Nat.beq s d then 0 else e'.own s c);cases Nat.beq s d<;>cases Nat.beq c 0<;>rfl
 rw[heq] at hfin;exact hfin
end
open Go Go.MapKept
section
variable {P:Program} {arr:Array Oper} {o:Oper} {e:Env} {T:TT}
def zLS (d:TypeDesc) (a:AV):Prop := ∃v,a = .lit v/\IsKey d v
theorem zZP {F:Nat->Option Nat} {w:World} {d:TypeDesc} {es:List MapEntry} {l:List (AV×AV)} (h:jO F w es l) (hk:∀p∈l,zLS d p.1):∀x∈es,IsKey d x.key:=fun x hx=>by
 obtain⟨j,hj⟩:=List.getElem?_of_mem hx;have hlt:j<l.length:=by rw[<-h.1];exact (List.getElem?_eq_some_iff.1 hj).1
 have hp:=List.getElem?_eq_getElem hlt;obtain⟨v,hv,hi⟩:=hk _ (List.getElem_mem hlt);have:=(h.2 j x _ hj hp).1;rw[hv] at this;rw[this.lit_eq.1];exact hi
inductive Found (l:List (AV×AV)) (kv:Value):Option (Nat×AV)->Prop
 | yes (j:Nat) (a:AV) (h:l[j]? = some (.lit kv,a)) (hf:∀i,i<j->∀p,l[i]? = some p->p.1≠.lit kv):Found l kv (some (j,a))
 | no (h:∀p∈l,p.1≠.lit kv):Found l kv none
theorem zDD {F:Nat->Option Nat} {w:World} {d:TypeDesc} {kv:Value} {es:List MapEntry} {l:List (AV×AV)} {r:Option (Nat×AV)} (h:jO F w es l) (hk:∀p∈l,zLS d p.1) (hkv:IsKey d kv) (hf:Found l kv r) :
  match r with
  | none=>Instr.findNow d kv es 0=some none
  | some (j,a) => ∃v,Instr.findNow d kv es 0=some (some (j,v))/\Rep F w v a/\∃x,es[j]? = some x/\x.key=kv/\x.val=v:=by
 have hes:=zZP h hk;have key:∀(j:Nat) x,es[j]? = some x->∃v,l[j]? = some (.lit x.key,v):=fun j x hj=>by
  have hlt:j<l.length:=by rw[<-h.1];exact (List.getElem?_eq_some_iff.1 hj).1
  have hp:=List.getElem?_eq_getElem hlt;obtain⟨v,hv,hi⟩:=hk _ (List.getElem_mem hlt);have:=(h.2 j x _ hj hp).1;rw[hv] at this;refine⟨l[j].2,?_⟩;rw[hp,this.lit_eq.1,<-hv]
 rcases findNow_spec hkv es 0 hes with⟨h1,h2⟩|⟨j,x,h1,h2,h3⟩
 ·cases hf with
  | no _=>exact h1
  | yes j a h4 h5 =>
   exfalso;have hlt:j<es.length:=by rw[h.1];exact (List.getElem?_eq_some_iff.1 h4).1
   have hx:=List.getElem?_eq_getElem hlt;obtain⟨v,hv⟩:=key j _ hx;rw[hv] at h4;injection h4 with h4;injection h4 with h4 _;injection h4 with h4
   exact h2 _ (List.getElem_mem hlt) h4
 ·rw[Nat.zero_add] at h1;obtain⟨v,hv⟩:=key j x h2;rw[h3] at hv;cases hf with
  | no h4=>exact absurd rfl (h4 _ (List.mem_of_getElem? hv))
  | yes j' a h4 h5 =>
   have hjj:j=j':=by
    rcases Nat.lt_trichotomy j j' with q|q|q
    ·exact absurd rfl (h5 j q _ hv)
    ·exact q
    ·exfalso;have first:∀(es:List MapEntry) (i j:Nat) v,(∀x∈es,IsKey d x.key)->Instr.findNow d kv es i=some (some (i+j,v))->∀q,q<j->∀x,es[q]? = some x->x.key≠kv:=by
      intro es;induction es with
      | nil=>intro i j v _ hh q _ x hx;simp at hx
      | cons y es ih =>
       intro i j v hks hh q hq x hx;obtain⟨r,hr,hiff⟩:=sameNow_of_keys hkv (hks y (.head _));cases r with
       | true=>simp[Instr.findNow,hr] at hh;omega
       | false =>
        simp only[Instr.findNow,hr] at hh
        match q with
        | 0 =>
         simp at hx;subst hx;intro e;have:=hiff.2 e.symm;cases this
        | q+1 =>
         match j with
         | 0=>omega
         | j+1=>exact ih (i+1) j v (fun x hx=>hks x (.tail _ hx)) (by rw[hh];congr 3;omega) q (by omega) x (by simpa using hx)
     have hlt:j'<es.length:=by rw[h.1];exact (List.getElem?_eq_some_iff.1 h4).1
     have hx':=List.getElem?_eq_getElem hlt;obtain⟨v',hv'⟩:=key j' _ hx';rw[hv'] at h4;injection h4 with h4;injection h4 with h4 _;injection h4 with h4
     exact first es 0 j x.val hes (by rw[Nat.zero_add];exact h1) j' q _ hx' h4
   subst hjj;rw[hv] at h4;injection h4 with h4;injection h4 with _ h4
   subst h4;exact⟨x.val,h1,(h.2 j x _ h2 hv).2,x,h2,h3,rfl⟩
theorem Rel.mapAt {cx:Ctx} {g:G} {a:Act} {w:World} (h:Rel cx g e a w) {i b:Nat} {l:List (AV×AV)} (hi:e.heap[i]? = some (b,HO.mp l)):∃es clock,w.heap[b]? = some (.map es clock)/\Born es clock/\jO g.F w es.toList l:=by
 have:=h.heap.ok _ (List.mem_of_getElem? hi);exact this
theorem zZS (hT:zN P T) {t:TypeId} {x ix:Operand} {ok:Bool} (ho:o.op = .lookup t x ix ok) {kt et:Nat} (hf:find T t = .mp kt et) {d:TypeDesc} (hd:P.underlying kt=some d) {b i:Nat} {l:List (AV×AV)} (hx:opd e x = .v (.lit (.map (some b)))) (hi:e.heap[i]? = some (b,HO.mp l)) {kv:Value}
  (hix:opd e ix = .v (.lit kv)) (hkv:IsKey d kv) (hks:∀p∈l,zLS d p.1) {r:Option (Nat×AV)} (hr:Found l kv r) {z:AV} (hz:∃i v,P.info? et=some i/\i.zero=some v/\∀F w,Rep F w v z) :
  RunsB P o e (putU o.dst (.v (let a:=match r with|some (_,a)=>a|none=>z;if ok then .tup [a,.lit (.bool r.isSome)] else a))) (rd arr.toList false o ||| 8):=by
 intro cx e' g ac w hdn hag hR K Q hK;have hs:Sub (zG (Op.lookup t x ix ok).operands.toList) (rd arr.toList false o ||| 8):=by
  refine Sub.trans ?_ Sub.inl;unfold rd;rw[ho];exact Sub.inr
 simp only[Op.operands,zG] at hs;have hk:=find_ok hT t;rw[hf] at hk;have hmt:=hk.1;have hheap:=hag.heap ((Sub.inr:Sub 8 (rd arr.toList false o ||| 8)) 3 (by decide));rw[hheap] at hi;obtain⟨es,clock,m1,_,m3⟩:=hR.mapAt hi;have hxv:=(zF hag hR hs.or_left hx).lit_eq.1;have hiv:=(zF hag hR hs.or_right.or_left hix).lit_eq.1;have hfn:=zDD m3 hks hkv hr;obtain⟨ti,zv,z1,z2,z3⟩:=hz;have hzr:(zeroValue et).run P w = .ok zv w:=by simp[zeroValue,typeInfo,z1,z2]
 have run:∀(v:Value) (fnd:Option (Nat×Value)) (okv:Bool),Instr.findNow d kv es.toList 0=some fnd->(match fnd with|some (_,u)=>u=v/\okv=true|none=>zv=v/\okv=false) ->
   (execOp ac.eval o).run P w = .ok (.value (if ok then .tuple #[v,.bool okv] else v)) w:=fun v fnd okv h1 h2=>by
  unfold execOp;simp only[ho,Instr.lookup,Sem.run_bind,run_underlying hmt,Result.andThen_ok,hxv,hiv,run_getObj_map m1,Sem.run_pure,run_checkKey (P:=P) (w:=w) hd hkv es.isEmpty 9999,run_findKey (P:=P) (w:=w) hd h1];cases fnd with
  | none =>
   obtain⟨rfl,rfl⟩:=h2;simp only[Sem.run_bind,hzr,Result.andThen_ok,Sem.run_pure]
  | some q =>
   obtain⟨n,u⟩:=q;obtain⟨rfl,rfl⟩:=h2;simp only[Sem.run_bind,Result.andThen_ok,Sem.run_pure]
 have put:∀(v:Value) (a:AV) (okv:Bool),Rep g.F w v a->Rep g.F w (if ok then .tuple #[v,.bool okv] else v) (if ok then .tup [a,.lit (.bool okv)] else a):=fun v a okv h=>by
  cases ok with
  | false=>exact h
  | true =>
   refine .tup _ _ rfl fun j u c hu hc=>?_
   match j with
   | 0=>simp at hu hc;subst hu;subst hc;exact h
   | 1=>simp at hu hc;subst hu;subst hc;exact .lit _ rfl
   | j+2=>simp at hu
 cases r with
 | none =>
  have h1:Instr.findNow d kv es.toList 0=some none:=hfn;have h2:=run zv none false h1 ⟨rfl,rfl⟩;refine zU h2 ?_;exact hK g _ _ (hR.putU hdn (fun _=>put zv z false (z3 _ _)))
 | some q =>
  obtain⟨j,a⟩:=q;obtain⟨v,h1,h3,_⟩:=hfn;have h2:=run v (some (j,v)) true h1 ⟨rfl,rfl⟩;refine zU h2 ?_;exact hK g _ _ (hR.putU hdn (fun _=>put v a true h3))
theorem Rel.setMap {cx : Ctx} {g : G} {a : Act} {w : World} (h : Rel cx g e a w) {i b : Nat} {l l' : List (AV × AV)} (hi : e.heap[i]? = some (b, HO.mp l)) {es es' : Array MapEntry} {clock clock' : Nat} (m1 : w.heap[b]? = some (.map es clock))
    (hb : Born es' clock') (hr : jO g.F w es'.toList l') : Rel cx g (app e [.heap (e.heap.set i (b, HO.mp l'))]) a { w with heap := w.heap.setIfInBounds b (.map es' clock') } := by
  have hmem := List.mem_of_getElem? hi;have hkey : b ∈ keys e.heap := List.mem_map.2 ⟨_, hmem, rfl⟩;have p2 := h.heapO b hkey;have p3 := h.heap.shut b hkey;have hlt := zL m1;obtain ⟨w', hw'⟩ : ∃ w', w' = ({ w with heap := w.heap.setIfInBounds b (.map es' clock') } : World) := ⟨_, rfl⟩
  rw [<- hw'];have now : w'.heap[b]? = some (.map es' clock') := by rw [hw']; simp [hlt]
  have blk : ∀ j, j ≠ b -> w'.heap[j]? = w.heap[j]? := fun j hj => by rw [hw']; simp [Ne.symm hj]
  have hsz : w'.heap.size = w.heap.size := by rw [hw']; simp
  have notCells : ∀ {cs E fr}, w.heap[b]? ≠ some (.cells cs E fr) := fun {cs E fr} e => by rw [m1] at e; cases e
  have kp : Keeps g.F w g.F w' := ⟨fun b2 k u hc hm => ⟨by
    by_cases hne : b2 = b
    · subst hne
      unfold World.cell? at hc;rw [m1] at hc; simp at hc
    · rw [World.cell_of_heap (blk b2 hne)]; exact hc, hm⟩, fun b2 es2 c2 hc hm => ⟨by
    by_cases hne : b2 = b
    · subst hne
      have := hm 0 p3; omega
    · exact (blk b2 hne).trans hc, hm⟩⟩
  have m : Mem g w g w' := ⟨kp, fun b2 s q hb => ⟨hb, rfl, blk b2 (fun e => by subst e; rw [p2] at hb; cases hb)⟩, fun b s q hb => .inl hb⟩
  refine { size := h.size, defers := h.defers, kept := ?_, fext := h.fext, nbx := h.nbx, old := h.old, hkO := h.hkO, hkin := h.hkin, fresh := fun b hb => h.fresh b (by rw [<- hsz]; exact hb), freshO := fun b hb => h.freshO b (by rw [<- hsz]; exact hb),
           slots := fun s => (h.slots s).mem m, own := fun s c sz v ho hpv => ?_, heap := ?_, heapO := ?_, al := h.al }
  · refine ⟨by rw [hw']; exact h.kept.os, by rw [hw']; exact h.kept.tape, by rw [hw']; exact h.kept.output, by rw [hsz]; exact h.kept.size, fun b2 hb2 => ?_⟩
    by_cases hne : b2 = b
    · subst hne
      exact .inl (h.hkin b2 hb2 p2)
    · rcases h.kept.block b2 hb2 with h1 | ⟨h1, cs, cs', E, mm, q1, q2, q3, q4, q5⟩ | h1
      · exact .inl h1
      · exact .inr (.inl ⟨h1, cs, cs', E, mm, q1, by rw [blk b2 hne]; exact q2, q3, q4, q5⟩)
      · exact .inr (.inr ((blk b2 hne).trans h1))
  · have ht := h.own s c sz v ho (PlaceVal.back h (fun b2 s q hb => (m.box b2 s q hb).2.2) hpv)
    refine ⟨?_, ht.2⟩;rcases ht.1 with h3 | h3 | ⟨b2, off, n, cap, cs2, E2, q1, q2, q3, q4, q5⟩
    · exact .inl h3
    · exact .inr (.inl h3)
    · refine .inr (.inr ⟨b2, off, n, cap, cs2, E2, q1, q2, q3, ?_, q5⟩)
      rw [blk b2 (fun e => by subst e; exact notCells q4)];exact q4
  · have hks : keys (e.heap.set i (b, HO.mp l')) = keys e.heap := by
      unfold keys;rw [List.map_set];refine List.ext_getElem? fun j => ?_;by_cases hj : i = j
      · subst hj
        rw [List.getElem?_set_self (by simpa using (List.getElem?_eq_some_iff.1 hi).1), List.getElem?_map, hi]; rfl
      · rw [List.getElem?_set_ne hj]
    refine ⟨by show (keys (e.heap.set i (b, HO.mp l'))).Nodup; rw [hks]; exact h.heap.nodup, fun b2 hb2 => h.heap.shut b2 (by rw [<- hks]; exact hb2), fun x hx => ?_⟩;obtain ⟨j, hj⟩ := List.getElem?_of_mem hx;by_cases hij : i = j
    · subst hij
      change (e.heap.set i (b, HO.mp l'))[i]? = some x at hj
      rw [List.getElem?_set_self (List.getElem?_eq_some_iff.1 hi).1] at hj;injection hj with hj
      subst hj;exact ⟨es', clock', now, hb, hr.1, fun j e p he hp => ⟨(hr.2 j e p he hp).1.mono kp, (hr.2 j e p he hp).2.mono kp⟩⟩
    · change (e.heap.set i (b, HO.mp l'))[j]? = some x at hj
      rw [List.getElem?_set_ne hij] at hj;have hxb : x.1 ≠ b := fun e1 => by
        have hn := h.heap.nodup;have h1 : (keys e.heap)[i]? = some b := by simp [keys, hi]
        have h2 : (keys e.heap)[j]? = some b := by simp [keys, hj, e1]
        exact hij ((List.getElem?_inj (by simpa [keys] using (List.getElem?_eq_some_iff.1 hi).1) hn).1 (h1.trans h2.symm))
      exact (h.heap.ok x (List.mem_of_getElem? hj)).grow kp (fun _ => blk _ hxb)
  · intro b2 hb2
    have hks : keys (e.heap.set i (b, HO.mp l')) = keys e.heap := by
      unfold keys;rw [List.map_set];refine List.ext_getElem? fun j => ?_;by_cases hj : i = j
      · subst hj
        rw [List.getElem?_set_self (by simpa using (List.getElem?_eq_some_iff.1 hi).1), List.getElem?_map, hi]; rfl
      · rw [List.getElem?_set_ne hj]
    exact h.heapO b2 (by rw [<- hks]; exact hb2)
theorem zUE {d:TypeDesc} {kv:Value} (hk:IsKey d kv):kv.oneCell'=true:=by
 cases kv<;>cases d<;>first|rfl|exact hk.elim
theorem zUJ {d:TypeDesc} {kv:Value} (hk:IsKey d kv) (w:World):(Instr.keyThatStays kv kv).run P w = .ok kv w:=by
 have:Instr.sameBits 10000 kv kv=true:=by
  cases kv<;>cases d<;>simp_all [IsKey,Instr.sameBits]
  rw[bytes_beq]
 unfold Instr.keyThatStays;rw[if_pos this]
 rfl
def zEX (l:List (AV×AV)) (kv:Value) (a:AV):Option (Nat×AV)->List (AV×AV)
 | some (j,_)=>l.set j (.lit kv,a)
 | none=>l++[(.lit kv,a)]
theorem zXS (hT:zN P T) {t:TypeId} {x kx y:Operand} (ho:o.op = .mapUpdate t x kx y) (hdst:o.dst=none) {kt et:Nat} (hf:find T t = .mp kt et) {d:TypeDesc} (hd:P.underlying kt=some d) {b i:Nat} {l:List (AV×AV)} (hx:opd e x = .v (.lit (.map (some b)))) (hi:e.heap[i]? = some (b,HO.mp l)) {kv:Value}
  (hix:opd e kx = .v (.lit kv)) (hkv:IsKey d kv) (hks:∀p∈l,zLS d p.1) {r:Option (Nat×AV)} (hr:Found l kv r) {a:AV} (hy:opd e y = .v a) :
  RunsB P o e [.heap (e.heap.set i (b,HO.mp (zEX l kv a r)))] (rd arr.toList false o ||| 8):=by
 intro cx e' g ac w hdn hag hR K Q hK;have hs:Sub (zG (Op.mapUpdate t x kx y).operands.toList) (rd arr.toList false o ||| 8):=by
  refine Sub.trans ?_ Sub.inl;unfold rd;rw[ho];exact Sub.inr
 simp only[Op.operands,zG] at hs;have hk:=find_ok hT t;rw[hf] at hk;have hmt:=hk.1;have hheap:=hag.heap ((Sub.inr:Sub 8 (rd arr.toList false o ||| 8)) 3 (by decide));rw[hheap] at hi;obtain⟨es,clock,m1,m2,m3⟩:=hR.mapAt hi;have hxv:=(zF hag hR hs.or_left hx).lit_eq.1;have hiv:=(zF hag hR hs.or_right.or_left hix).lit_eq.1;have hyv:=zF hag hR hs.or_right.or_right.or_left hy;have hfn:=zDD m3 hks hkv hr;rw[hheap] at hK;cases r with
 | none =>
  have h1:Instr.findNow d kv es.toList 0=some none:=hfn;have hrun:(execOp ac.eval o).run P w = .ok .skip {w with heap:=w.heap.setIfInBounds b (.map (es.push {key:=kv,val:=ac.eval y,born:=clock}) (clock+1))}:=by
   unfold execOp;simp only[ho,Instr.mapUpdate,Sem.run_bind,run_underlying hmt,Result.andThen_ok,hxv,hiv,run_getObj_map m1,Sem.run_pure,run_checkKey (P:=P) (w:=w) hd hkv false 9999,run_findKey (P:=P) (w:=w) hd h1,run_setObj_map _ m1]
  refine wp_skip hrun ?_;rw[hdst];refine hK g _ _ (hR.setMap hi m1 ?_ ?_)
  ·obtain⟨b1,b2⟩:=m2;refine⟨?_,fun q hq=>?_⟩
   ·rw[Array.toList_push,List.map_append];refine List.nodup_append.2 ⟨b1,by simp,?_⟩;rintro u hu v hv rfl;simp at hv;obtain⟨q,hq,rfl⟩:=List.mem_map.1 hu;have:=b2 q hq;omega
   ·rw[Array.toList_push] at hq;rcases List.mem_append.1 hq with hq|hq
    ·have:=b2 q hq;omega
    ·simp at hq;subst hq;simp
  ·refine⟨by simp[zEX,m3.1],fun j u p hu hp=>?_⟩;rw[Array.toList_push] at hu
   change (l++[(AV.lit kv,a)])[j]? = some p at hp
   rcases Nat.lt_or_ge j l.length with hj|hj
   ·rw[List.getElem?_append_left (by rw[m3.1];exact hj)] at hu;rw[List.getElem?_append_left hj] at hp;exact m3.2 j u p hu hp
   ·rw[List.getElem?_append_right (by rw[m3.1];exact hj),m3.1] at hu;rw[List.getElem?_append_right hj] at hp
    match hjj:j-l.length with
    | 0 =>
     rw[hjj] at hu hp;simp at hu hp;subst hu;subst hp;refine⟨.lit kv ?_,hyv⟩;exact zUE hkv
    | n+1=>rw[hjj] at hu;simp at hu
 | some q =>
  obtain⟨j,a0⟩:=q;obtain⟨v,h1,h3,x0,h4,h5,h6⟩:=hfn;have h4':es[j]? = some x0:=by rw[<-Array.getElem?_toList];exact h4
  have hrun:(execOp ac.eval o).run P w = .ok .skip {w with heap:=w.heap.setIfInBounds b (.map (es.modify j fun e=>{e with key:=kv,val:=ac.eval y}) clock)}:=by
   unfold execOp;simp only[ho,Instr.mapUpdate,Sem.run_bind,run_underlying hmt,Result.andThen_ok,hxv,hiv,run_getObj_map m1,Sem.run_pure,run_checkKey (P:=P) (w:=w) hd hkv false 9999,run_findKey (P:=P) (w:=w) hd h1,h4',Option.map_some,Option.getD_some,h5,zUJ hkv,run_setObj_map _ m1]
  refine wp_skip hrun ?_;rw[hdst];have hml:(es.modify j fun e=>{e with key:=kv,val:=ac.eval y}).toList=es.toList.modify j fun e=>{e with key:=kv,val:=ac.eval y}:=by simp
  refine hK g _ _ (hR.setMap hi m1 ?_ ?_)
  ·obtain⟨b1,b2⟩:=m2;have hborn:(es.toList.modify j fun e=>{e with key:=kv,val:=ac.eval y}).map (·.born)=es.toList.map (·.born):=by
    refine List.ext_getElem? fun n=>?_;rw[List.getElem?_map,List.getElem?_map,List.getElem?_modify];cases es.toList[n]? with
    | none=>rfl
    | some u=>simp only[Option.map_some];split<;>rfl
   refine⟨by rw[hml,hborn];exact b1,fun q hq=>?_⟩;rw[hml] at hq;have:q.born∈(es.toList.modify j fun e=>{e with key:=kv,val:=ac.eval y}).map (·.born):=List.mem_map_of_mem hq;rw[hborn] at this;obtain⟨q',hq',e1⟩:=List.mem_map.1 this;rw[<-e1];exact b2 q' hq'
  ·refine⟨by rw[hml];simp[zEX,m3.1],fun n u p hu hp=>?_⟩;rw[hml,List.getElem?_modify] at hu
   change (l.set j (AV.lit kv,a))[n]? = some p at hp
   by_cases hn:j=n
   ·subst hn;rw[List.getElem?_set_self (by rw[<-m3.1];exact (List.getElem?_eq_some_iff.1 h4).1)] at hp;injection hp with hp
    subst hp;rw[h4] at hu;simp at hu;subst hu;refine⟨.lit kv ?_,hyv⟩;exact zUE hkv
   ·rw[List.getElem?_set_ne hn] at hp;cases hq:es.toList[n]? with
    | none=>rw[hq] at hu;simp at hu
    | some u' =>
     rw[hq] at hu;simp[hn] at hu;subst hu;exact m3.2 n u' p hq hp
theorem zFW {t:TypeId} (ho:o.op = .makeMap t none) {d:Nat} (hd:o.dst=some d) {k:List U->Prop} (h:∀b,k [.val d (.v (.lit (.map (some b)))),.clr d,.heap (e.heap++[(b,HO.mp [])])]) :
  ∀cx g a w,(∀d,o.dst=some d->d<cx.n)->Rel cx g e a w->∀(K:Act->World->Prop) (Q:Exit->Act->World->Prop),(∀u g' a' w',k u->Rel cx g' (app e u) a' w'->K a' w')->o.wp P a w K Q:=by
 intro cx g ac w hdn hR K Q hK;have hrun:(execOp ac.eval o).run P w = .ok (.value (.map (some w.heap.size))) (w.alloc (.map #[] 0)):=by
  unfold execOp;simp only[ho,Option.map_none,Sem.run_bind,Sem.run_pure]
  rfl
 refine zU hrun ?_;rw[hd];have hgr:=Grow.alloc w (.map #[] 0);have hnew:(w.alloc (.map #[] 0)).heap[w.heap.size]? = some (.map #[] 0):=World.heap_alloc_new w _;have h1:=hR.extend hgr (b0:=w.heap.size) (Nat.le_refl _) (zL hnew) (some 0) .obj (fun s q h=>by cases h);have hlt:∀b,b<w.heap.size->b≠w.heap.size:=fun b hb he=>by omega
 have kp:Keeps g.F w (fun b=>if b=w.heap.size then some 0 else g.F b) (w.alloc (.map #[] 0)):=hgr.keeps (fun b hb=>by simp[hlt b hb]);have hold:∀b∈keys e.heap,b<w.heap.size:=fun b hb=>by
  obtain⟨x,hx,rfl⟩:=List.mem_map.1 hb;exact (hR.heap.ok x hx).lt
 have hk:keys (e.heap++[(w.heap.size,HO.mp [])])=keys e.heap++[w.heap.size]:=by simp[keys]
 refine hK _ _ _ _ (h w.heap.size) ((h1.put (hdn d hd) (x := .v (.lit (.map (some w.heap.size)))) (Rep.lit _ rfl)).heapTo ⟨?_,fun b hb=>?_,fun x hx=>?_⟩ fun b hb=>?_)
 ·rw[hk];refine List.nodup_append.2 ⟨hR.heap.nodup,by simp,?_⟩;rintro a ha b hb rfl;simp at hb;exact hlt a (hold a ha) hb
 ·rw[hk] at hb;rcases List.mem_append.1 hb with hb|hb
  ·simp only[hlt b (hold b hb),if_false];exact hR.heap.shut b hb
  ·simp at hb;simp[hb]
 ·rcases List.mem_append.1 hx with hx|hx
  ·exact (hR.heap.ok x hx).grow kp (fun hb=>hgr.block _ hb)
  ·simp at hx;subst hx;exact⟨#[],0,hnew,⟨by simp,by simp⟩,⟨rfl,fun j u p hu=>by simp at hu⟩⟩
 ·rw[hk] at hb;rcases List.mem_append.1 hb with hb|hb
  ·simp only[hlt b (hold b hb),if_false];exact hR.heapO b hb
  ·simp at hb;simp[hb]
end
def zX9 (s:Nat):List (Nat×SV)->Bool
 | []=>true
 | (_,x)::r=>(match x with
  | .adB s' _ _ => !(Nat.beq s' s)
  | _=>true) && zX9 s r
def hpfy:List Operand->CE->(CE->Prop)->Prop
 | [],c,k=>k c
 | x::r,c,k=>match x with
  | .tmp s=>match yA c.vs s with
   | .box _ a=>zX9 s c.vs=true/\∀b,hpfy r (capp c [.val s (.v (.lit (.pointer (some ⟨b,0,none⟩)))),.clr s,.heap (c.hp++[(b,HO.cells a.cells)])]) k
   | _=>hpfy r c k
  | _=>hpfy r c k
def qC (kz a:AV):Prop:=match kz,a with
 | .lit (.int q _),.lit (.int q' _)=>q'=q
 | .lit (.string _),.lit (.string _)=>True
 | _,_=>False
def zeroV (T:TT) (t:Nat):Option AV:=match find T t with
 | .sc z=>some z
 | .st _ _ _ z=>some (.agg z)
 | .sl _ _=>some .nil
 | .mp _ _=>some (.lit (.map none))
 | .other=>none
def zT4 (ok:Bool) (r:Option (Nat×AV)) (z:AV):AV:=match ok,r with
 | true,some (_,a) => .tup [a,.lit (.bool true)]
 | true,none => .tup [z,.lit (.bool false)]
 | false,some (_,a)=>a
 | false,none=>z
def zPY (T:TT) (o:Oper) (t:Nat) (x ix:Operand) (ok:Bool) (e:Env) (k:List U->Prop):Prop:=match find T t with
 | .mp kt et=>match find T kt,opd e x,opd e ix with
  | .sc kz,.v (.lit (.map (some b))),.v (.lit kv) => ∃(i:Nat) (l:List (AV×AV)) (r:Option (Nat×AV)),e.heap[i]? = some (b,HO.mp l)/\(∀p∈l,qC kz p.1)/\qC kz (.lit kv)/\Found l kv r /\
    match zeroV T et with
    | some z=>k (putU o.dst (.v (zT4 ok r z)))
    | none=>False
  | _,_,_=>False
 | _=>False
def zX2 (T:TT) (o:Oper) (t:Nat) (x ix y:Operand) (e:Env) (k:List U->Prop):Prop:=match find T t,o.dst with
 | .mp kt _,none=>match find T kt,opd e x,opd e ix,opd e y with
  | .sc kz,.v (.lit (.map (some b))),.v (.lit kv),.v a => ∃(i:Nat) (l:List (AV×AV)) (r:Option (Nat×AV)),e.heap[i]? = some (b,HO.mp l)/\(∀p∈l,qC kz p.1)/\qC kz (.lit kv)/\Found l kv r/\k [.heap (e.heap.set i (b,HO.mp (zEX l kv a r)))]
  | _,_,_,_=>False
 | _,_=>False
section
variable (P:Program) (T:TT) (ops:List Oper)
def zMC (o:Oper) (fv:Value) (as:List Operand) (e:Env) (k:List U->Prop):Prop:=match opds e as with
 | some args => ∃is hin r,xK is e.heap=some hin/\is.Nodup/\CallsG P fv hin args [] (fun r' n h=>r'=r/\n=0/\h=hin)/\k (putU o.dst (.v r))
 | none=>False
def zHG (o:Oper) (fv:Value) (as:List Operand) (e:Env) (k:List U->Prop):Prop:=match opds e as with
 | some args => ∃is hin h0 r,xK is e.heap=some hin/\is.Nodup/\keys h0=keys hin/\CallsG P fv hin args [] (fun r' n h=>r'=r/\n=0/\h=h0)/\k (putU o.dst (.v r)++[.heap (zJ4 is h0 e.heap)])
 | none=>False
def zLM (o:Oper) (fv:Value) (as:List Operand) (e:Env) (k:List U->Prop):Prop:=match opds e as with
 | some args => ∃r,zE4 P fv args r/\k (putU o.dst (.v r))
 | none=>False
def stepT (o:Oper) (c:CE) (n:CE->Prop):Prop:=match o.op with
 | .makeMap _ none=>match o.dst with
  | some d => ∀b,n (capp c [.val d (.v (.lit (.map (some b)))),.clr d,.heap (c.hp++[(b,HO.mp [])])])
  | none=>False
 | .lookup t x ix ok=>zPY T o t x ix ok (den c) fun u=>n (capp c u)
 | .mapUpdate t x ix y=>zX2 T o t x ix y (den c) fun u=>n (capp c u)
 | .call cl=>match cl.callee with
  | .value f=>match opd (den c) f with
   | .v (.lit fv)=>zLM P o fv cl.args.toList (den c) (fun u=>n (capp c u))∨(zMC P o fv cl.args.toList (den c) (fun u=>n (capp c u))∨(zHG P o fv cl.args.toList (den c) (fun u=>n (capp c u))∨zB4 P true o fv cl.args.toList (den c) (fun u=>n (capp c u))))
   | _=>False
  | _=>ay P T true ops o (den c) fun u=>n (capp c u)
 | _=>ay P T true ops o (den c) fun u=>n (capp c u)
def zG9 (o:Oper) (s:Nat):Nat:=bV s ||| (bV (rootOf ops s) ||| (bif hands ops o then bO (rootOf ops s) else 0))
def stepD (o:Oper) (c:CE) (n:CE->Nat×Nat->Prop):Prop:=match o.op with
 | .load t (.tmp s)=>match yA c.vs s with
  | .v _=>wC T ops o t s (den c) fun u=>n (capp c u) (rd ops false o,wr ops false o)
  | _=>wC T ops o t s (den c) fun u=>n (capp c u) (zY ops o ||| zG9 ops o s,wr ops false o)
 | .lookup t x ix ok=>zPY T o t x ix ok (den c) fun u=>n (capp c u) (rd ops false o ||| 8,wr ops false o)
 | .mapUpdate t x ix y=>zX2 T o t x ix y (den c) fun u=>n (capp c u) (rd ops false o ||| 8,8)
 | .call cl=>match cl.callee with
  | .value f=>match opd (den c) f with
   | .v (.lit fv)=>zLM P o fv cl.args.toList (den c) (fun u=>n (capp c u) (rd ops false o,wr ops false o))∨(zMC P o fv cl.args.toList (den c) (fun u=>n (capp c u) (rd ops false o ||| 8,wr ops false o))∨zHG P o fv cl.args.toList (den c) (fun u=>n (capp c u) (rd ops false o ||| 8,wr ops false o ||| 8)))
   | _=>False
  | _=>ay P T false ops o (den c) fun u=>n (capp c u) (rd ops false o,wr ops false o)
 | _=>ay P T false ops o (den c) fun u=>n (capp c u) (rd ops false o,wr ops false o)
end
def zK (n:Nat):Code->Bool
 | .region _ ops _=>ops.toList.all (fun o=>match o.dst with|some d=>Nat.blt d n|none=>true)
 | .seq a b=>zK n a && zK n b
 | .cond _ a b=>zK n a && zK n b
 | .block _ c=>zK n c
 | .loop c=>zK n c
 | .scope c=>zK n c
 | .rangeFunc _ ps a b=>ps.toList.all (fun p=>Nat.blt p n) && (zK n a && zK n b)
 | _=>true
section
variable {P:Program} {arr:Array Oper} {o:Oper} {T:TT}
theorem zDX {s:Nat}:∀{vs:List (Nat×SV)},zX9 s vs=true->∀s' q off,yA vs s'≠.adB s q off
 | [],_,s',q,off,h=>by simp[yA] at h
 | (i,x)::r,hn,s',q,off,h=>by
  simp only[zX9,Bool.and_eq_true] at hn;simp only[yA] at h;cases hb:Nat.beq i s' with
  | true =>
   rw[hb] at h;simp only[cond_true] at h;subst h;simp at hn
  | false=>rw[hb] at h;exact zDX hn.2 s' q off h
theorem Rel.unbox {cx:Ctx} (hyk:True) {g:G} {e:Env} {a:Act} {w:World} (h:Rel cx g e a w) {s q:Nat} {a0:AV} (hs:e.vals s = .box q a0) (hno:∀s' q off,e.vals s'≠.adB s q off) :
  ∃b g',Rel cx g' (app e [.val s (.v (.lit (.pointer (some ⟨b,0,none⟩)))),.clr s,.heap (e.heap++[(b,HO.cells a0.cells)])]) a w:=by
 have hsl:=h.slots s;rw[hs] at hsl;obtain⟨b,cs,E,h1,h2,h3,h4,h5,h6⟩:=hsl;have hnk:b∉keys e.heap:=fun hk=>by have:=h.heapO b hk;rw[h2] at this;cases this
 have hbW:cx.W.heap.size<=b:=by
  rcases Nat.lt_or_ge b cx.W.heap.size with hlt|hge
  ·exact absurd h2 (h.nbx b _ _ hlt)
  ·exact hge
 have hk:keys (e.heap++[(b,HO.cells a0.cells)])=keys e.heap++[b]:=by simp[keys]
 refine⟨b,{F:=g.F,O:=fun j=>if j=b then .obj else g.O j},{h with nbx:=fun j s2 q hj ho=>by (by_cases hne:j=b;(subst hne;simp only[if_true] at ho;cases ho);simp only[hne,if_false] at ho;exact h.nbx j s2 q hj ho),old:=?_,hkin:=?_,freshO:=?_,slots:=fun s'=>?_,own:=fun s' c sz v ho hp=>?_,heap:=?_,heapO:=?_,al:=fun j s' hj=>?_}⟩
 ·intro j hj hjy;have hne:j≠b:=by omega
  simp only[hne,if_false];exact h.old j hj hjy
 ·intro j hj hjo;have hne:j≠b:=by omega
  simp only[hne,if_false] at hjo;exact h.hkin j hj hjo
 ·intro j hj;have hne:j≠b:=fun e=>by subst e;have:=zL h5;omega
  simp only[hne,if_false];exact h.freshO j hj
 ·show SlotOk _ w s' (zBJ e.vals s _ s') _;by_cases hs':s'=s
  ·subst hs';rw[zW,h1];exact Rep.lit _ rfl
  ·rw[yQ _ _ hs'];have:=h.slots s';cases hx:e.vals s' with
   | junk=>trivial
   | undef=>rw[hx] at this;exact this
   | v y=>rw[hx] at this;exact this
   | box k y =>
    rw[hx] at this;obtain⟨b',cs',E',p1,p2,p3,p4,p5,p6⟩:=this;have hne:b'≠b:=fun e1=>by subst e1;rw[h2] at p2;injection p2 with p2 _;exact hs' p2.symm
    refine⟨b',cs',E',p1,by simp only[hne,if_false];exact p2,p3,fun j hj=>?_,p5,p6⟩;by_cases hjb:j=b
    ·subst hjb;simp at hj
    ·simp only[hjb,if_false] at hj;exact p4 j hj
   | adB s2 k off =>
    rw[hx] at this;obtain⟨b',p1,p2⟩:=this;have hne:b'≠b:=fun e1=>by
     subst e1;rw[h2] at p2;injection p2 with p2 p3
     subst p2;exact hno s' k off hx
    exact⟨b',p1,by simp only[hne,if_false];exact p2⟩
   | adE l=>rw[hx] at this;exact this
 ·have ho':s'≠s/\e.own s' c=sz+1:=by
   simp only[app,app1] at ho;by_cases hs':s'=s
   ·subst hs';simp at ho
   ·rw[Nat.beq_ne hs'] at ho;exact⟨hs',by simpa using ho⟩
  have hp':PlaceVal a w (e.vals s') s' c v:=by
   simp only[app,app1] at hp;rw[yQ _ _ ho'.1] at hp;exact hp
  obtain⟨t1,t2⟩:=h.own s' c sz v ho'.2 hp';refine⟨t1,fun j hj=>?_⟩;have:=t2 j hj;have hne:j≠b:=fun e1=>by subst e1;rw[h2] at this;cases this
  simp only[hne,if_false];exact this
 ·show HeapIn g.F w (e.heap++[(b,HO.cells a0.cells)]);refine⟨?_,fun j hj=>?_,fun x hx=>?_⟩
  ·rw[hk];refine List.nodup_append.2 ⟨h.heap.nodup,by simp,?_⟩;rintro u hu v hv rfl;simp at hv;subst hv;exact hnk hu
  ·rw[hk] at hj;rcases List.mem_append.1 hj with hj|hj
   ·exact h.heap.shut j hj
   ·simp at hj;subst hj;exact h3
  ·rcases List.mem_append.1 hx with hx|hx
   ·exact h.heap.ok x hx
   ·simp at hx;subst hx;exact⟨cs,E,h5,h6⟩
 ·intro j hj
  change j∈keys (e.heap++[(b,HO.cells a0.cells)]) at hj
  rw[hk] at hj;rcases List.mem_append.1 hj with hj1|hj1
  ·have hne:j≠b:=fun e1=>hnk (e1 ▸ hj1);simp only[hne,if_false];exact h.heapO j hj1
  ·simp at hj1;simp[hj1]
 ·by_cases hjb:j=b
  ·subst hjb;simp at hj
  ·simp only[hjb,if_false] at hj;exact h.al j s' hj
theorem zA3 {cx:Ctx} (hyk:True) {k:CE->Prop}:∀(l:List Operand) (c:CE) {g:G} {a:Act} {w:World},hpfy l c k->Rel cx g (den c) a w->∃c' g',k c'/\Rel cx g' (den c') a w
 | [],c,g,a,w,h,hR=>⟨c,g,h,hR⟩
 | x::r,c,g,a,w,h,hR=>by
  unfold hpfy at h;split at h
  ·rename_i s;split at h
   ·rename_i q a0 hx;obtain⟨hn,h⟩:=h;obtain⟨b,g',hR'⟩:=hR.unbox hyk (s:=s) (q:=q) (a0:=a0) hx (zDX hn);refine zA3 hyk r _ (h b) (g:=g') ?_;rw[yC];exact hR'
   ·exact zA3 hyk r c h hR
  ·exact zA3 hyk r c h hR
end
end Fp
