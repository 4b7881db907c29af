/- Functions whose result is a slice of their own, or nil. No condition. -/
import Derived.Test.YtgonkhaebmfgiaaGreatDoorFpH
set_option linter.unusedSimpArgs false
set_option linter.unusedVariables false
namespace Fp
open Go Go.MapKept
section
variable {P:Program} {T:TT}
def zY7 (T:TT) (rs:List ResultVar) (esz:Nat) (r:AV) (e:Env):Prop:=match rs with
 | [.tmp t]=>(e.vals t = .v .nil/\r = .sl []/\e.heap=[])∨yP T [.tmp t] (fun r' o h=>r'=r/\o=esz+1/\h=[]) e
 | _=>False
theorem zK7 (hT : zV P T) (hm : P.follows .mixedOrders = true) {f : Nat} {fn : Func} {c : Code} (hf : P.funcs[f]? = some fn) (hb : fn.body = some c) (hname : (fn.name == "runtime.NumGoroutine") = false) {args : List AV}
  (hlen:args.length<=fn.ntmps) (hk:yK fn.ntmps c=true) {esz:Nat} {r:AV}
  (hw:WcX P T c (qY args [] []) (fun c=>zY7 T fn.results.toList esz r (den c)) (fun _ _=>False) (fun c=>zY7 T fn.results.toList esz r (den c))) :
  CallsG P (fnv f) [] args [] fun r' o h=>r'=r/\o=esz+1/\h=[]:=by
 refine⟨f,_,_,rfl,⟨fn,hf,by rw[hb];rfl,hname⟩,fun F w vs hfr hh ha hy=>?_⟩;have e1 : #[]++vs.toArray ++ #[]=vs.toArray:=by simp
 have hy0:yD vs []=[]:=by cases vs<;>rfl
 rw[e1];obtain⟨g,hR⟩:=zD3 hfr hh ha hy (n:=fn.ntmps) (by rw[ha.len];exact hlen);refine calls_of_wp hf hb (Go.wp_mono (zDW hT hm trivial c _ _ _ _ hk hw g _ _ (hR.weaken (zA7 args [] []) (zCA args [] []) (fun _=>rfl) rfl)) fun ex a w' hp=>?_);have fin:∀{e:Env} {g:G},zY7 T fn.results.toList esz r e->Rel {n:=fn.ntmps,W:=w,F:=F,hk:=keys [],yk:=yD vs []} g e a w'->a.defers=[]/\∃v,(results fn a.tmps).run P w' = .ok v w'/\y5 F (keys []) (yD vs []) w (fun r' o h=>r'=r/\o=esz+1/\h=[]) (.returned v) w':=fun {e g} hr hR=>by
  unfold zY7 at hr;split at hr
  ·rename_i t hrs;rcases hr with⟨hx,rfl,h2⟩|hr
   ·have hsl:=hR.slots t;rw[hx] at hsl;have hv:a.tmps.getD t undef = .slice none 0 0:=Rep.nil_eq hsl;have hres:(results fn a.tmps).run P w' = .ok (a.tmps.getD t undef) w':=by
     rw[zIM,hrs];simp only[List.mapM_cons,List.mapM_nil,zBF,Sem.run_bind,Result.andThen_ok,Sem.run_pure]
     rfl
    rw[hv] at hres;exact⟨hR.defers,_,hres,_,.sl [],esz+1,[],g.F,rfl,⟨rfl,rfl,rfl⟩,.slNil,fun sz h=>⟨.inl rfl,fun b hb=>by cases hb⟩,hR.kept,hR.fext,hR.fresh,by rw[<-h2];exact hR.heap,fun b hb=>by simp[keys] at hb⟩
   ·unfold yP at hr;split at hr
    ·rename_i r' hres;rw[<-hrs] at hres hr;obtain⟨v,p1,p2,p3⟩:=zA5 hT hR hres;have hh0:=hr.2.2;refine⟨hR.defers,v,p1,v,r',_,e.heap,g.F,rfl,hr,p2,fun sz ho=>?_,hR.kept,hR.fext,hR.fresh,hR.heap,fun b hb=>by rw[hh0] at hb;simp[keys] at hb⟩;obtain⟨q1,q2⟩:=p3 sz ho;refine⟨q1,fun b hb=>?_⟩;obtain⟨s,hs⟩:=q2 b hb;refine .inr ⟨?_,fun hk=>by have:=hR.heapO b hk;rw[hs] at this;cases this⟩;rcases Nat.lt_or_ge b w.heap.size with h2|h2
     ·rcases hR.old b h2 (by rw[hy0];simp) with h3|⟨_,h3⟩<;>(rw[hs] at h3;cases h3)
     ·exact h2
    ·exact hr.elim
  ·exact hr.elim
 cases ex with
 | normal=>obtain⟨e,g',h1,h2⟩:=hp;exact fin h1 h2
 | ret=>obtain⟨e,g',h1,h2⟩:=hp;exact fin h1 h2
 | exit i=>obtain⟨e,g',h1,h2⟩:=hp;exact h1.elim
 | goto l=>exact hp.elim
 | panic ch=>exact hp.elim
 | outgrown=>exact hp.elim
end
section
variable {P:Program} {T:TT}
end
open Go
variable {P:Program}
theorem Frz.all {h:List (Nat×HO)} {F:Nat->Option Nat} {w:World} (hh:HeapIn F w h):∀{vs:List Value} {args args':List AV},args.length=args'.length->(∀(i:Nat) a a',args[i]? = some a->args'[i]? = some a'->Frz h a a') ->
  (∀(i:Nat) v a,vs[i]? = some v->args[i]? = some a->Rep F w v a)->∀(i:Nat) v a,vs[i]? = some v->args'[i]? = some a->Rep (fun j=>if j∈keys h then none else F j) w v a:=by
 intro vs args args' hl hf hr i v a hv ha;have hi:i<args.length:=by rw[hl];exact (List.getElem?_eq_some_iff.1 ha).1
 have h1:=List.getElem?_eq_getElem hi;exact (hf i _ a h1 ha).rep hh (hr i v _ hv h1)
theorem CallsG.lend {fv:Value} {hin:List (Nat×HO)} {args args':List AV} {r:AV} (hc:zCR P fv args' r) (hl:args.length=args'.length) (hf:∀(i:Nat) a a',args[i]? = some a->args'[i]? = some a'->Frz hin a a')
  (hr:∀F w v,Rep F w v r->∀F' w',Rep F' w' v r):CallsG P fv hin args [] fun r' o h=>r'=r/\o=0/\h=hin:=by
 obtain⟨f,first,cap,he,hen,hcalls⟩:=hc;refine⟨f,first,cap,he,hen,fun F w vs h1 h2 h3 h4=>?_⟩;have hyk:yD vs []=[]:=by cases vs<;>rfl
 have hlt:∀b∈keys hin,b<w.heap.size:=fun b hb=>by
  obtain⟨x,hx,rfl⟩:=List.mem_map.1 hb;exact (h2.ok x hx).lt
 have hfr:Fresh (fun j=>if j∈keys hin then none else F j) w:=fun b hb=>by
  show (if b∈keys hin then none else F b)=none;split
  ·rfl
  ·exact h1 b hb
 have hno:∀(i:Nat) (sz:Nat),([]:List Nat)[i]? = some (sz+1)->False:=fun i sz h=>by simp at h
 have hci:=hcalls _ w vs hfr ⟨List.nodup_nil,fun b hb=>by simp[keys] at hb,fun x hx=>by simp at hx⟩
  ⟨h3.len.trans hl,Frz.all h2 hl hf h3.rep,fun i v sz hv ho=>(hno i sz ho).elim,by rw[hyk];exact List.nodup_nil⟩ (by rw[hyk];simp)
 refine hci.mono fun e w' hpo=>?_;obtain⟨v,r',o,hout,F',rfl,⟨rfl,rfl,rfl⟩,p2,p3,p4,p5,p6,p7,p8⟩:=hpo;rw[hyk] at p4 p5⊢;have hsame:∀b,b<w.heap.size->w'.heap[b]? = w.heap[b]?:=fun b hb=>by
  rcases p4.block b hb with h|⟨h,_⟩|h
  ·simp[keys] at h
  ·simp at h
  ·exact h
 have hF:∀b,b<w.heap.size->(if b∈keys hin then some 0 else F' b)=F b:=fun b hb=>by
  by_cases hk:b∈keys hin
  ·rw[if_pos hk];exact (h2.shut b hk).symm
  ·rw[if_neg hk];rcases p5 b hb with h|⟨h,_⟩
   ·rw[h];simp[hk]
   ·simp at h
 have kp:Keeps F w (fun b=>if b∈keys hin then some 0 else F' b) w':=by
  refine⟨fun b k u hc hm=>?_,fun b es c hc hm=>?_⟩
  ·have hb:=World.lt_of_cell hc;exact⟨by rw[World.cell_of_heap (hsame b hb)];exact hc,fun m hm'=>hm m (by rw[<-hF b hb];exact hm')⟩
  ·have hb:=zQ hc;exact⟨(hsame b hb).trans hc,zIU hm (hF b hb)⟩
 refine⟨v,_,0,hin,fun b=>if b∈keys hin then some 0 else F' b,rfl,⟨rfl,rfl,rfl⟩,hr _ _ _ p2 _ _,fun sz h=>by omega,?_,fun b hb => .inl (hF b hb),fun b hb=>?_,⟨h2.nodup,fun b hb=>by simp[hb],fun x hx=>(h2.ok x hx).grow kp (hsame x.1)⟩,fun b hb => .inl hb⟩
 ·exact⟨p4.os,p4.tape,p4.output,p4.size,fun b hb => .inr (.inr (hsame b hb))⟩
 ·have:b∉keys hin:=fun hk=>by have:=hlt b hk;have:=p4.size;omega
  simp only[this,if_false];exact p6 b hb
theorem CallsG.less {fv:Value} {hin:List (Nat×HO)} {args:List AV} {os:List Nat} {post post':AV->Nat->List (Nat×HO)->Prop} (hc:CallsG P fv hin args os post)
  (hp:∀r o h,post r o h->∃h1 h2,h=h1++h2/\post' r o h1):CallsG P fv hin args os post':=by
 obtain⟨f,first,cap,he,hen,hcalls⟩:=hc;refine⟨f,first,cap,he,hen,fun F w vs h1 h2 h3 h4=>(hcalls F w vs h1 h2 h3 h4).mono fun e w' hpo=>?_⟩;obtain⟨v,r,o,hout,F',rfl,hpost,p2,p3,p4,p5,p6,p7,p8⟩:=hpo;obtain⟨ha,hb,rfl,hpost'⟩:=hp r o hout hpost;have hk:keys (ha++hb)=keys ha++keys hb:=by simp[keys]
 refine⟨v,r,o,ha,F',rfl,hpost',p2,fun sz h=>⟨(p3 sz h).1,fun b hbk=>?_⟩,p4,p5,p6,⟨?_,fun b hbm=>p7.shut b (by rw[hk];exact List.mem_append_left _ hbm),fun x hx=>p7.ok x (List.mem_append_left _ hx)⟩,fun b hbm=>p8 b (by rw[hk];exact List.mem_append_left _ hbm)⟩
 ·rcases (p3 sz h).2 b hbk with h|⟨h,h'⟩
  ·exact .inl h
  ·exact .inr ⟨h,fun hm=>h' (by rw[hk];exact List.mem_append_left _ hm)⟩
 ·have:=p7.nodup;rw[hk] at this;exact (List.nodup_append.1 this).1
theorem CallsG.less0 {fv:Value} {hin:List (Nat×HO)} {args:List AV} {os:List Nat} {post post':AV->Nat->List (Nat×HO)->Prop} (hc:CallsG P fv hin args os post)
  (hp:∀r o h,post r o h->∃h1 h2,h=h1++h2/\post' r 0 h1):CallsG P fv hin args os post':=by
 obtain⟨f,first,cap,he,hen,hcalls⟩:=hc;refine⟨f,first,cap,he,hen,fun F w vs h1 h2 h3 h4=>(hcalls F w vs h1 h2 h3 h4).mono fun e w' hpo=>?_⟩;obtain⟨v,r,o,hout,F',rfl,hpost,p2,p3,p4,p5,p6,p7,p8⟩:=hpo;obtain⟨ha,hb,rfl,hpost'⟩:=hp r o hout hpost;have hk:keys (ha++hb)=keys ha++keys hb:=by simp[keys]
 refine⟨v,r,0,ha,F',rfl,hpost',p2,fun sz h=>by omega,p4,p5,p6,⟨?_,fun b hbm=>p7.shut b (by rw[hk];exact List.mem_append_left _ hbm),fun x hx=>p7.ok x (List.mem_append_left _ hx)⟩,fun b hbm=>p8 b (by rw[hk];exact List.mem_append_left _ hbm)⟩;have:=p7.nodup;rw[hk] at this;exact (List.nodup_append.1 this).1
theorem CallsG.lessS {fv:Value} {hin:List (Nat×HO)} {args:List AV} {os:List Nat} {post post':AV->Nat->List (Nat×HO)->Prop} (hc:CallsG P fv hin args os post)
  (hp:∀r o h,post r o h->∃h1,h1.Sublist h/\post' r 0 h1):CallsG P fv hin args os post':=by
 obtain⟨f,first,cap,he,hen,hcalls⟩:=hc;refine⟨f,first,cap,he,hen,fun F w vs h1 h2 h3 h4=>(hcalls F w vs h1 h2 h3 h4).mono fun e w' hpo=>?_⟩;obtain⟨v,r,o,hout,F',rfl,hpost,p2,p3,p4,p5,p6,p7,p8⟩:=hpo;obtain⟨ha,hs,hpost'⟩:=hp r o hout hpost;have hk:(keys ha).Sublist (keys hout):=hs.map _;exact⟨v,r,0,ha,F',rfl,hpost',p2,fun sz h=>by omega,p4,p5,p6,⟨hk.nodup p7.nodup,fun b hbm=>p7.shut b (hk.subset hbm),fun x hx=>p7.ok x (hs.subset hx)⟩,fun b hbm=>p8 b (hk.subset hbm)⟩
theorem CallsG.post {fv:Value} {hin:List (Nat×HO)} {args:List AV} {os:List Nat} {post post':AV->Nat->List (Nat×HO)->Prop} (hc:CallsG P fv hin args os post) (hp:∀r o h,post r o h->post' r o h):CallsG P fv hin args os post' :=
 hc.less fun r o h hpo=>⟨h,[],by simp,hp r o h hpo⟩
end Fp
