/- Functions whose result is a slice of their own, or nil. No condition. -/
import Derived.Test.YtebmimnglcdogaaGreatDoorFpH
set_option linter.unusedSimpArgs false
set_option linter.unusedVariables false
namespace Fp
open Go Go.MapKept
section
variable {P:Program} {T:TT}
end
section
variable {P:Program} {T:TT}
def Wsem0 (P:Program) (q:Code) (c:CE) (n:CE->Prop) (x:Nat->CE->Prop) (r:CE->Prop):Prop :=
 ∀cx:Ctx,True->cx.hk=[]->zZ cx.n q=true->∀g a w,Rel cx g (den c) a w->q.wp P (zFS cx n x r) a w
theorem Wsem0.seq (hT:zO P T) (hm:P.follows .mixedOrders=true) {p q:Code} {c:CE} {n:CE->Prop} {x:Nat->CE->Prop} {r:CE->Prop} (h:WcX P T p c (fun c=>Wsem0 P q c n x r) x r):Wsem0 P (.seq p q) c n x r:=by
 intro cx hyk hhk hk g a w hR;simp only[zZ,Bool.and_eq_true] at hk;refine wp_seq (Go.wp_mono (zA1 hT hm hyk p c _ x r hk.1 h g a w hR) fun ex a w hp=>?_);cases ex with
 | normal=>obtain⟨c',g',h1,h2⟩:=hp;exact h1 cx hyk hhk hk.2 g' a w h2
 | _=>exact hp
theorem zL4 (hT:zO P T) (hm:P.follows .mixedOrders=true) {f:Nat} {fn:Func} {c:Code} (hf:P.funcs[f]? = some fn) (hb:fn.body=some c) {vs:List Value} {args:List AV} {os:List Nat} {hin:List (Nat×HO)}
  (hlen:args.length<=fn.ntmps) (hk:zZ fn.ntmps c=true) {post:AV->Nat->List (Nat×HO)->Prop} {F:Nat->Option Nat} {w:World}
  (hw:Wsem0 P c (xU args os hin) (fun c=>wB T fn.results.toList post (den c)) (fun _ _=>False) (fun c=>wB T fn.results.toList post (den c)))
  (hyk:yA vs os=[]) (hin0:keys hin=[]) (hfr:Fresh F w) (hh:HeapIn F w hin) (ha:zB3 F w vs args os) (hy:∀b∈yA vs os,b∉keys hin):Calls P f vs.toArray w (xA F (keys hin) (yA vs os) w post):=by
 obtain⟨g,hR⟩:=zAT hfr hh ha hy (n:=fn.ntmps) (by rw[ha.len];exact hlen);refine calls_of_wp hf hb (Go.wp_mono (hw _ trivial hin0 hk g _ _ (hR.weaken (qG args os hin) (jF args os hin) (fun _=>rfl) rfl)) fun ex a w' hp=>?_);have fin:∀{e:Env} {g:G},wB T fn.results.toList post e->Rel {n:=fn.ntmps,W:=w,F:=F,hk:=keys hin,yk:=yA vs os} g e a w'->a.defers=[]/\∃v,(results fn a.tmps).run P w' = .ok v w'/\xA F (keys hin) (yA vs os) w post (.returned v) w':=fun {e g} hr hR=>by
  unfold wB at hr;split at hr
  ·rename_i r hres;obtain⟨v,p1,p2,p3⟩:=zAB hT hR hres;refine⟨hR.defers,v,p1,v,r,_,e.heap,g.F,rfl,hr,p2,fun sz ho=>?_,hR.kept,hR.fext,hR.fresh,hR.heap,fun b hb=>?_⟩
   ·obtain⟨q1,q2⟩:=p3 sz ho;refine⟨q1,fun b hb=>?_⟩;obtain⟨s,hs⟩:=q2 b hb;by_cases h1:b∈yA vs os
    ·exact .inl h1
    ·refine .inr ⟨?_,fun hk=>by have:=hR.heapO b hk;rw[hs] at this;cases this⟩;rcases Nat.lt_or_ge b w.heap.size with h2|h2
     ·rcases hR.old b h2 h1 with h3|⟨_,h3⟩<;>(rw[hs] at h3;cases h3)
     ·exact h2
   ·rcases Nat.lt_or_ge b w.heap.size with h2|h2
    ·exact .inl (hR.hkin b h2 (hR.heapO b hb))
    ·exact .inr h2
  ·exact hr.elim
 cases ex with
 | normal=>obtain⟨e,g',h1,h2⟩:=hp;exact fin h1 h2
 | ret=>obtain⟨e,g',h1,h2⟩:=hp;exact fin h1 h2
 | exit i=>obtain⟨e,g',h1,h2⟩:=hp;exact h1.elim
 | goto l=>exact hp.elim
 | panic ch=>exact hp.elim
 | outgrown=>exact hp.elim
theorem zGW (hT : zO P T) (hm : P.follows .mixedOrders = true) {f : Nat} {fn : Func} {c : Code} (hf : P.funcs[f]? = some fn) (hb : fn.body = some c) (hname : (fn.name == "runtime.NumGoroutine") = false) {args : List AV}
  (hlen:args.length<=fn.ntmps) (hk:zZ fn.ntmps c=true) {r:AV}
  (hw:Wsem0 P c (xU args [] []) (fun c=>zF0 T fn.results.toList r (den c)) (fun _ _=>False) (fun c=>zF0 T fn.results.toList r (den c))):zD P f args r:=by
 refine⟨f,_,_,rfl,⟨fn,hf,by rw[hb];rfl,hname⟩,fun F w vs hfr hh ha hy=>?_⟩;have e1 : #[]++vs.toArray ++ #[]=vs.toArray:=by simp
 rw[e1];refine (zL4 hT hm hf hb hlen hk (post:=fun r' _ _=>r'=r) ?_ (by cases vs<;>rfl) rfl hfr hh ha hy).mono fun en w' hp=>?_
 ·exact hw
 ·obtain⟨v,r',n,hout,F',rfl,p1,p2,p3,p4,p5,p6,p7,p8⟩:=hp;exact⟨v,r',0,[],F',rfl,⟨p1,rfl,rfl⟩,p2,fun sz h=>(by cases h),p4,p5,p6,⟨List.nodup_nil,fun b hb=>by simp[keys] at hb,fun x hx=>by simp at hx⟩,fun b hb=>by simp[keys] at hb⟩
end
open Go
variable {P:Program}
theorem Frz.all {h:List (Nat×HO)} {F:Nat->Option Nat} {w:World} (hh:HeapIn F w h):∀{vs:List Value} {args args':List AV},args.length=args'.length->(∀(i:Nat) a a',args[i]? = some a->args'[i]? = some a'->Frz h a a') ->
  (∀(i:Nat) v a,vs[i]? = some v->args[i]? = some a->Rep F w v a)->∀(i:Nat) v a,vs[i]? = some v->args'[i]? = some a->Rep (fun j=>if j∈keys h then none else F j) w v a:=by
 intro vs args args' hl hf hr i v a hv ha;have hi:i<args.length:=by rw[hl];exact (List.getElem?_eq_some_iff.1 ha).1
 have h1:=List.getElem?_eq_getElem hi;exact (hf i _ a h1 ha).rep hh (hr i v _ hv h1)
theorem CallsG.lend {fv:Value} {hin:List (Nat×HO)} {args args':List AV} {r:AV} (hc:zA8 P fv args' r) (hl:args.length=args'.length) (hf:∀(i:Nat) a a',args[i]? = some a->args'[i]? = some a'->Frz hin a a')
  (hr:∀F w v,Rep F w v r->∀F' w',Rep F' w' v r):CallsG P fv hin args [] fun r' o h=>r'=r/\o=0/\h=hin:=by
 obtain⟨f,first,cap,he,hen,hcalls⟩:=hc;refine⟨f,first,cap,he,hen,fun F w vs h1 h2 h3 h4=>?_⟩;have hyk:yA vs []=[]:=by cases vs<;>rfl
 have hlt:∀b∈keys hin,b<w.heap.size:=fun b hb=>by
  obtain⟨x,hx,rfl⟩:=List.mem_map.1 hb;exact (h2.ok x hx).lt
 have hfr:Fresh (fun j=>if j∈keys hin then none else F j) w:=fun b hb=>by
  show (if b∈keys hin then none else F b)=none;split
  ·rfl
  ·exact h1 b hb
 have hno:∀(i:Nat) (sz:Nat),([]:List Nat)[i]? = some (sz+1)->False:=fun i sz h=>by simp at h
 have hci:=hcalls _ w vs hfr ⟨List.nodup_nil,fun b hb=>by simp[keys] at hb,fun x hx=>by simp at hx⟩
  ⟨h3.len.trans hl,Frz.all h2 hl hf h3.rep,fun i v sz hv ho=>(hno i sz ho).elim,by rw[hyk];exact List.nodup_nil⟩ (by rw[hyk];simp)
 refine hci.mono fun e w' hpo=>?_;obtain⟨v,r',o,hout,F',rfl,⟨rfl,rfl,rfl⟩,p2,p3,p4,p5,p6,p7,p8⟩:=hpo;rw[hyk] at p4 p5⊢;have hsame:∀b,b<w.heap.size->w'.heap[b]? = w.heap[b]?:=fun b hb=>by
  rcases p4.block b hb with h|⟨h,_⟩|h
  ·simp[keys] at h
  ·simp at h
  ·exact h
 have hF:∀b,b<w.heap.size->(if b∈keys hin then some 0 else F' b)=F b:=fun b hb=>by
  by_cases hk:b∈keys hin
  ·rw[if_pos hk];exact (h2.shut b hk).symm
  ·rw[if_neg hk];rcases p5 b hb with h|⟨h,_⟩
   ·rw[h];simp[hk]
   ·simp at h
 have kp:Keeps F w (fun b=>if b∈keys hin then some 0 else F' b) w':=by
  refine⟨fun b k u hc hm=>?_,fun b es c hc hm=>?_⟩
  ·have hb:=World.lt_of_cell hc;exact⟨by rw[World.cell_of_heap (hsame b hb)];exact hc,fun m hm'=>hm m (by rw[<-hF b hb];exact hm')⟩
  ·have hb:=zM hc;exact⟨(hsame b hb).trans hc,zG6 hm (hF b hb)⟩
 refine⟨v,_,0,hin,fun b=>if b∈keys hin then some 0 else F' b,rfl,⟨rfl,rfl,rfl⟩,hr _ _ _ p2 _ _,fun sz h=>by omega,?_,fun b hb => .inl (hF b hb),fun b hb=>?_,⟨h2.nodup,fun b hb=>by simp[hb],fun x hx=>(h2.ok x hx).grow kp (hsame x.1)⟩,fun b hb => .inl hb⟩
 ·exact⟨p4.os,p4.tape,p4.output,p4.size,fun b hb => .inr (.inr (hsame b hb))⟩
 ·have:b∉keys hin:=fun hk=>by have:=hlt b hk;have:=p4.size;omega
  simp only[this,if_false];exact p6 b hb
theorem zLK {b:Bool}:∀F w v,Rep F w v (.sb b)->∀F' w',Rep F' w' v (.sb b):=fun F w v h F' w'=>by
 rw[h.sb_eq];exact .sb b
theorem CallsG.less {fv:Value} {hin:List (Nat×HO)} {args:List AV} {os:List Nat} {post post':AV->Nat->List (Nat×HO)->Prop} (hc:CallsG P fv hin args os post)
  (hp:∀r o h,post r o h->∃h1 h2,h=h1++h2/\post' r o h1):CallsG P fv hin args os post':=by
 obtain⟨f,first,cap,he,hen,hcalls⟩:=hc;refine⟨f,first,cap,he,hen,fun F w vs h1 h2 h3 h4=>(hcalls F w vs h1 h2 h3 h4).mono fun e w' hpo=>?_⟩;obtain⟨v,r,o,hout,F',rfl,hpost,p2,p3,p4,p5,p6,p7,p8⟩:=hpo;obtain⟨ha,hb,rfl,hpost'⟩:=hp r o hout hpost;have hk:keys (ha++hb)=keys ha++keys hb:=by simp[keys]
 refine⟨v,r,o,ha,F',rfl,hpost',p2,fun sz h=>⟨(p3 sz h).1,fun b hbk=>?_⟩,p4,p5,p6,⟨?_,fun b hbm=>p7.shut b (by rw[hk];exact List.mem_append_left _ hbm),fun x hx=>p7.ok x (List.mem_append_left _ hx)⟩,fun b hbm=>p8 b (by rw[hk];exact List.mem_append_left _ hbm)⟩
 ·rcases (p3 sz h).2 b hbk with h|⟨h,h'⟩
  ·exact .inl h
  ·exact .inr ⟨h,fun hm=>h' (by rw[hk];exact List.mem_append_left _ hm)⟩
 ·have:=p7.nodup;rw[hk] at this;exact (List.nodup_append.1 this).1
theorem CallsG.lessS {fv:Value} {hin:List (Nat×HO)} {args:List AV} {os:List Nat} {post post':AV->Nat->List (Nat×HO)->Prop} (hc:CallsG P fv hin args os post)
  (hp:∀r o h,post r o h->∃h1,h1.Sublist h/\post' r 0 h1):CallsG P fv hin args os post':=by
 obtain⟨f,first,cap,he,hen,hcalls⟩:=hc;refine⟨f,first,cap,he,hen,fun F w vs h1 h2 h3 h4=>(hcalls F w vs h1 h2 h3 h4).mono fun e w' hpo=>?_⟩;obtain⟨v,r,o,hout,F',rfl,hpost,p2,p3,p4,p5,p6,p7,p8⟩:=hpo;obtain⟨ha,hs,hpost'⟩:=hp r o hout hpost;have hk:(keys ha).Sublist (keys hout):=hs.map _;exact⟨v,r,0,ha,F',rfl,hpost',p2,fun sz h=>by omega,p4,p5,p6,⟨hk.nodup p7.nodup,fun b hbm=>p7.shut b (hk.subset hbm),fun x hx=>p7.ok x (hs.subset hx)⟩,fun b hbm=>p8 b (hk.subset hbm)⟩
theorem CallsG.lessM {fv:Value} {hin:List (Nat×HO)} {args:List AV} {os:List Nat} {post post':AV->Nat->List (Nat×HO)->Prop} (hc:CallsG P fv hin args os post)
  (hp:∀r o h,post r o h->∃h1,(∀x∈h1,x∈h)/\((keys h).Nodup->(keys h1).Nodup)/\post' r 0 h1):CallsG P fv hin args os post':=by
 obtain⟨f,first,cap,he,hen,hcalls⟩:=hc;refine⟨f,first,cap,he,hen,fun F w vs h1 h2 h3 h4=>(hcalls F w vs h1 h2 h3 h4).mono fun e w' hpo=>?_⟩;obtain⟨v,r,o,hout,F',rfl,hpost,p2,p3,p4,p5,p6,p7,p8⟩:=hpo;obtain⟨ha,hs,hn,hpost'⟩:=hp r o hout hpost;have hk:∀b∈keys ha,b∈keys hout:=fun b hb=>by
  obtain⟨x,hx,rfl⟩:=List.mem_map.1 hb;exact List.mem_map.2 ⟨x,hs x hx,rfl⟩
 exact⟨v,r,0,ha,F',rfl,hpost',p2,fun sz h=>by omega,p4,p5,p6,⟨hn p7.nodup,fun b hbm=>p7.shut b (hk b hbm),fun x hx=>p7.ok x (hs x hx)⟩,fun b hbm=>p8 b (hk b hbm)⟩
end Fp
