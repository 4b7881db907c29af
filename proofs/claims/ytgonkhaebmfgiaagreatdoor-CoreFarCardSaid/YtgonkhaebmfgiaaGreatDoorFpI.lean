/- Functions whose result is a slice of their own, or nil. No condition. -/
import Derived.Test.YtgonkhaebmfgiaaGreatDoorFpH
set_option linter.unusedSimpArgs false
set_option linter.unusedVariables false
namespace Fp
open Go Go.MapKept
section
variable {P:Program} {T:TT}
def z4Q (T:TT) (rs:List ResultVar) (esz:Nat) (r:AV) (e:Env):Prop:=match rs with
 | [.tmp t]=>(e.vals t = .v .nil/\r = .sl []/\e.heap=[])∨yX T [.tmp t] (fun r' o h=>r'=r/\o=esz+1/\h=[]) e
 | _=>False
theorem zML (hT : zW P T) (hm : P.follows .mixedOrders = true) {f : Nat} {fn : Func} {c : Code} (hf : P.funcs[f]? = some fn) (hb : fn.body = some c) (hname : (fn.name == "runtime.NumGoroutine") = false) {args : List AV}
  (hlen:args.length<=fn.ntmps) (hk:yP fn.ntmps c=true) {esz:Nat} {r:AV}
  (hw:WcX P T c (jT args [] []) (fun c=>z4Q T fn.results.toList esz r (den c)) (fun _ _=>False) (fun c=>z4Q T fn.results.toList esz r (den c))) :
  CallsG P (fnv f) [] args [] fun r' o h=>r'=r/\o=esz+1/\h=[]:=by
 refine⟨f,_,_,rfl,⟨fn,hf,by rw[hb];rfl,hname⟩,fun F w vs hfr hh ha hy=>?_⟩;have e1 : #[]++vs.toArray ++ #[]=vs.toArray:=by simp
 have hy0:yN vs []=[]:=by cases vs<;>rfl
 rw[e1];obtain⟨g,hR⟩:=zEV hfr hh ha hy (n:=fn.ntmps) (by rw[ha.len];exact hlen);refine calls_of_wp hf hb (Go.wp_mono (zE6 hT hm trivial c _ _ _ _ hk hw g _ _ (hR.weaken (zBU args [] []) (zC6 args [] []) (fun _=>rfl) rfl)) fun ex a w' hp=>?_);have fin:∀{e:Env} {g:G},z4Q T fn.results.toList esz r e->Rel {n:=fn.ntmps,W:=w,F:=F,hk:=keys [],yk:=yN vs []} g e a w'->a.defers=[]/\∃v,(results fn a.tmps).run P w' = .ok v w'/\qI F (keys []) (yN vs []) w (fun r' o h=>r'=r/\o=esz+1/\h=[]) (.returned v) w':=fun {e g} hr hR=>by
  unfold z4Q at hr;split at hr
  ·rename_i t hrs;rcases hr with⟨hx,rfl,h2⟩|hr
   ·have hsl:=hR.slots t;rw[hx] at hsl;have hv:a.tmps.getD t undef = .slice none 0 0:=Rep.nil_eq hsl;have hres:(results fn a.tmps).run P w' = .ok (a.tmps.getD t undef) w':=by
     rw[zKI,hrs];simp only[List.mapM_cons,List.mapM_nil,zB3,Sem.run_bind,Result.andThen_ok,Sem.run_pure]
     rfl
    rw[hv] at hres;exact⟨hR.defers,_,hres,_,.sl [],esz+1,[],g.F,rfl,⟨rfl,rfl,rfl⟩,.slNil,fun sz h=>⟨.inl rfl,fun b hb=>by cases hb⟩,hR.kept,hR.fext,hR.fresh,by rw[<-h2];exact hR.heap,fun b hb=>by simp[keys] at hb⟩
   ·unfold yX at hr;split at hr
    ·rename_i r' hres;rw[<-hrs] at hres hr;obtain⟨v,p1,p2,p3⟩:=zBN hT hR hres;have hh0:=hr.2.2;refine⟨hR.defers,v,p1,v,r',_,e.heap,g.F,rfl,hr,p2,fun sz ho=>?_,hR.kept,hR.fext,hR.fresh,hR.heap,fun b hb=>by rw[hh0] at hb;simp[keys] at hb⟩;obtain⟨q1,q2⟩:=p3 sz ho;refine⟨q1,fun b hb=>?_⟩;obtain⟨s,hs⟩:=q2 b hb;refine .inr ⟨?_,fun hk=>by have:=hR.heapO b hk;rw[hs] at this;cases this⟩;rcases Nat.lt_or_ge b w.heap.size with h2|h2
     ·rcases hR.old b h2 (by rw[hy0];simp) with h3|⟨_,h3⟩<;>(rw[hs] at h3;cases h3)
     ·exact h2
    ·exact hr.elim
  ·exact hr.elim
 cases ex with
 | normal=>obtain⟨e,g',h1,h2⟩:=hp;exact fin h1 h2
 | ret=>obtain⟨e,g',h1,h2⟩:=hp;exact fin h1 h2
 | exit i=>obtain⟨e,g',h1,h2⟩:=hp;exact h1.elim
 | goto l=>exact hp.elim
 | panic ch=>exact hp.elim
 | outgrown=>exact hp.elim
end
section
variable {P:Program} {T:TT}
end
open Go
variable {P:Program}
theorem CallsG.less {fv:Value} {hin:List (Nat×HO)} {args:List AV} {os:List Nat} {post post':AV->Nat->List (Nat×HO)->Prop} (hc:CallsG P fv hin args os post)
  (hp:∀r o h,post r o h->∃h1 h2,h=h1++h2/\post' r o h1):CallsG P fv hin args os post':=by
 obtain⟨f,first,cap,he,hen,hcalls⟩:=hc;refine⟨f,first,cap,he,hen,fun F w vs h1 h2 h3 h4=>(hcalls F w vs h1 h2 h3 h4).mono fun e w' hpo=>?_⟩;obtain⟨v,r,o,hout,F',rfl,hpost,p2,p3,p4,p5,p6,p7,p8⟩:=hpo;obtain⟨ha,hb,rfl,hpost'⟩:=hp r o hout hpost;have hk:keys (ha++hb)=keys ha++keys hb:=by simp[keys]
 refine⟨v,r,o,ha,F',rfl,hpost',p2,fun sz h=>⟨(p3 sz h).1,fun b hbk=>?_⟩,p4,p5,p6,⟨?_,fun b hbm=>p7.shut b (by rw[hk];exact List.mem_append_left _ hbm),fun x hx=>p7.ok x (List.mem_append_left _ hx)⟩,fun b hbm=>p8 b (by rw[hk];exact List.mem_append_left _ hbm)⟩
 ·rcases (p3 sz h).2 b hbk with h|⟨h,h'⟩
  ·exact .inl h
  ·exact .inr ⟨h,fun hm=>h' (by rw[hk];exact List.mem_append_left _ hm)⟩
 ·have:=p7.nodup;rw[hk] at this;exact (List.nodup_append.1 this).1
theorem CallsG.less0 {fv:Value} {hin:List (Nat×HO)} {args:List AV} {os:List Nat} {post post':AV->Nat->List (Nat×HO)->Prop} (hc:CallsG P fv hin args os post)
  (hp:∀r o h,post r o h->∃h1 h2,h=h1++h2/\post' r 0 h1):CallsG P fv hin args os post':=by
 obtain⟨f,first,cap,he,hen,hcalls⟩:=hc;refine⟨f,first,cap,he,hen,fun F w vs h1 h2 h3 h4=>(hcalls F w vs h1 h2 h3 h4).mono fun e w' hpo=>?_⟩;obtain⟨v,r,o,hout,F',rfl,hpost,p2,p3,p4,p5,p6,p7,p8⟩:=hpo;obtain⟨ha,hb,rfl,hpost'⟩:=hp r o hout hpost;have hk:keys (ha++hb)=keys ha++keys hb:=by simp[keys]
 refine⟨v,r,0,ha,F',rfl,hpost',p2,fun sz h=>by omega,p4,p5,p6,⟨?_,fun b hbm=>p7.shut b (by rw[hk];exact List.mem_append_left _ hbm),fun x hx=>p7.ok x (List.mem_append_left _ hx)⟩,fun b hbm=>p8 b (by rw[hk];exact List.mem_append_left _ hbm)⟩;have:=p7.nodup;rw[hk] at this;exact (List.nodup_append.1 this).1
theorem CallsG.lessS {fv:Value} {hin:List (Nat×HO)} {args:List AV} {os:List Nat} {post post':AV->Nat->List (Nat×HO)->Prop} (hc:CallsG P fv hin args os post)
  (hp:∀r o h,post r o h->∃h1,h1.Sublist h/\post' r 0 h1):CallsG P fv hin args os post':=by
 obtain⟨f,first,cap,he,hen,hcalls⟩:=hc;refine⟨f,first,cap,he,hen,fun F w vs h1 h2 h3 h4=>(hcalls F w vs h1 h2 h3 h4).mono fun e w' hpo=>?_⟩;obtain⟨v,r,o,hout,F',rfl,hpost,p2,p3,p4,p5,p6,p7,p8⟩:=hpo;obtain⟨ha,hs,hpost'⟩:=hp r o hout hpost;have hk:(keys ha).Sublist (keys hout):=hs.map _;exact⟨v,r,0,ha,F',rfl,hpost',p2,fun sz h=>by omega,p4,p5,p6,⟨hk.nodup p7.nodup,fun b hbm=>p7.shut b (hk.subset hbm),fun x hx=>p7.ok x (hs.subset hx)⟩,fun b hbm=>p8 b (hk.subset hbm)⟩
theorem CallsG.post {fv:Value} {hin:List (Nat×HO)} {args:List AV} {os:List Nat} {post post':AV->Nat->List (Nat×HO)->Prop} (hc:CallsG P fv hin args os post) (hp:∀r o h,post r o h->post' r o h):CallsG P fv hin args os post' :=
 hc.less fun r o h hpo=>⟨h,[],by simp,hp r o h hpo⟩
end Fp
