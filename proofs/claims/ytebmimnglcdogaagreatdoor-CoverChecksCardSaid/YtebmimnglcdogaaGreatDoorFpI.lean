/- Functions whose result is a slice of their own, or nil. No condition. -/
import Derived.Test.YtebmimnglcdogaaGreatDoorFpH
set_option linter.unusedSimpArgs false
set_option linter.unusedVariables false
namespace Fp
open Go Go.MapKept
section
variable {P:Program} {T:TT}
def z07 (T:TT) (rs:List ResultVar) (esz:Nat) (r:AV) (e:Env):Prop:=match rs with
 | [.tmp t]=>(e.vals t = .v .nil/\r = .sl []/\e.heap=[])∨xA T [.tmp t] (fun r' o h=>r'=r/\o=esz+1/\h=[]) e
 | _=>False
theorem zED (hT : zN P T) (hm : P.follows .mixedOrders = true) {f : Nat} {fn : Func} {c : Code} (hf : P.funcs[f]? = some fn) (hb : fn.body = some c) (hname : (fn.name == "runtime.NumGoroutine") = false) {args : List AV}
  (hlen:args.length<=fn.ntmps) (hk:zK fn.ntmps c=true) {esz:Nat} {r:AV}
  (hw:WcX P T c (xN args [] []) (fun c=>z07 T fn.results.toList esz r (den c)) (fun _ _=>False) (fun c=>z07 T fn.results.toList esz r (den c))) :
  CallsG P (fnv f) [] args [] fun r' o h=>r'=r/\o=esz+1/\h=[]:=by
 refine⟨f,_,_,rfl,⟨fn,hf,by rw[hb];rfl,hname⟩,fun F w vs hfr hh ha hy=>?_⟩;have e1 : #[]++vs.toArray ++ #[]=vs.toArray:=by simp
 have hy0:zS vs []=[]:=by cases vs<;>rfl
 rw[e1];obtain⟨g,hR⟩:=wV hfr hh ha hy (n:=fn.ntmps) (by rw[ha.len];exact hlen);refine calls_of_wp hf hb (Go.wp_mono (jF hT hm trivial c _ _ _ _ hk hw g _ _ (hR.weaken (xH args [] []) (wF args [] []) (fun _=>rfl) rfl)) fun ex a w' hp=>?_);have fin:∀{e:Env} {g:G},z07 T fn.results.toList esz r e->Rel {n:=fn.ntmps,W:=w,F:=F,hk:=keys [],yk:=zS vs []} g e a w'->a.defers=[]/\∃v,(results fn a.tmps).run P w' = .ok v w'/\yJ F (keys []) (zS vs []) w (fun r' o h=>r'=r/\o=esz+1/\h=[]) (.returned v) w':=fun {e g} hr hR=>by
  unfold z07 at hr;split at hr
  ·rename_i t hrs;rcases hr with⟨hx,rfl,h2⟩|hr
   ·have hsl:=hR.slots t;rw[hx] at hsl;have hv:a.tmps.getD t undef = .slice none 0 0:=Rep.nil_eq hsl;have hres:(results fn a.tmps).run P w' = .ok (a.tmps.getD t undef) w':=by
     rw[zER,hrs];simp only[List.mapM_cons,List.mapM_nil,zAQ,Sem.run_bind,Result.andThen_ok,Sem.run_pure]
     rfl
    rw[hv] at hres;exact⟨hR.defers,_,hres,_,.sl [],esz+1,[],g.F,rfl,⟨rfl,rfl,rfl⟩,.slNil,fun sz h=>⟨.inl rfl,fun b hb=>by cases hb⟩,hR.kept,hR.fext,hR.fresh,by rw[<-h2];exact hR.heap,fun b hb=>by simp[keys] at hb⟩
   ·unfold xA at hr;split at hr
    ·rename_i r' hres;rw[<-hrs] at hres hr;obtain⟨v,p1,p2,p3⟩:=wM hT hR hres;have hh0:=hr.2.2;refine⟨hR.defers,v,p1,v,r',_,e.heap,g.F,rfl,hr,p2,fun sz ho=>?_,hR.kept,hR.fext,hR.fresh,hR.heap,fun b hb=>by rw[hh0] at hb;simp[keys] at hb⟩;obtain⟨q1,q2⟩:=p3 sz ho;refine⟨q1,fun b hb=>?_⟩;obtain⟨s,hs⟩:=q2 b hb;refine .inr ⟨?_,fun hk=>by have:=hR.heapO b hk;rw[hs] at this;cases this⟩;rcases Nat.lt_or_ge b w.heap.size with h2|h2
     ·rcases hR.old b h2 (by rw[hy0];simp) with h3|⟨_,h3⟩<;>(rw[hs] at h3;cases h3)
     ·exact h2
    ·exact hr.elim
  ·exact hr.elim
 cases ex with
 | normal=>obtain⟨e,g',h1,h2⟩:=hp;exact fin h1 h2
 | ret=>obtain⟨e,g',h1,h2⟩:=hp;exact fin h1 h2
 | exit i=>obtain⟨e,g',h1,h2⟩:=hp;exact h1.elim
 | goto l=>exact hp.elim
 | panic ch=>exact hp.elim
 | outgrown=>exact hp.elim
end
theorem zTH {sz:Nat}:∀{L:List AV} {i j:Nat} {x c:AV},(∀x∈L,x.cells.length=sz)->L[i]? = some x->x.cells[j]? = some c->(L.flatMap AV.cells)[i*sz+j]? = some c
 | [],i,j,x,c,_,h,_=>by simp at h
 | y::L,0,j,x,c,hs,h,hc=>by
  simp at h;subst h;rw[List.flatMap_cons,Nat.zero_mul,Nat.zero_add,List.getElem?_append_left (List.getElem?_eq_some_iff.1 hc).1];exact hc
 | y::L,i+1,j,x,c,hs,h,hc=>by
  have hy:=hs y (by simp);rw[List.flatMap_cons,List.getElem?_append_right (by rw[hy,Nat.add_mul];omega),hy,show (i+1)*sz+j-sz=i*sz+j by rw[Nat.add_mul];omega];exact zTH (fun x hx=>hs x (by simp[hx])) (by simpa using h) hc
theorem Rel.freezeK {cx:Ctx} {g:G} {e:Env} {a:Act} {w:World} (h:Rel cx g e a w) (hhk:cx.hk=[]) {b:Nat} {l:List AV} (hh:e.heap=[(b,HO.cells l)]) {s cap sz:Nat} {L zs:List AV}
  (hs:e.vals s = .v (.lit (.slice (some ⟨b,0,none⟩) L.length cap))) (hcap:L.length<=cap) (hsz:∀x∈L,x.cells.length=sz) (hl:l=L.flatMap AV.cells++zs) :
  ∃g',Rel cx g' (app e [.val s (.v (.sl L)),.clr s,.heap []]) a w:=by
 have hO:g.O b = .obj:=h.heapO b (by rw[hh];simp[keys]);have hF:g.F b=some 0:=h.heap.shut b (by rw[hh];simp[keys]);obtain⟨cs,E,k1,k2⟩:=h.heap.ok (b,HO.cells l) (by rw[hh];simp);simp only at k1;have hnew:cx.W.heap.size<=b:=by
  rcases Nat.lt_or_ge b cx.W.heap.size with h1|h1
  ·have:=h.hkin b h1 hO;rw[hhk] at this;cases this
  ·exact h1
 have cm:∀j k,com g.F j k->com (fun j=>if j=b then some cs.size else g.F j) j k:=fun j k hm m hm'=>by
  by_cases hj:j=b
  ·subst hj;have:=hm 0 hF;omega
  ·simp only[hj,if_false] at hm';exact hm m hm'
 have kp:Keeps g.F w (fun j=>if j=b then some cs.size else g.F j) w:=⟨fun j k u hc hm=>⟨hc,cm j k hm⟩,fun j es c hc hm=>⟨hc,cm j 0 hm⟩⟩
 have hlt:b<w.heap.size:=zL k1;have rep:Rep (fun j=>if j=b then some cs.size else g.F j) w (.slice (some ⟨b,0,none⟩) L.length cap) (.sl L):=by
  have hat:∀i x j c,L[i]? = some x->x.cells[j]? = some c->l[i*sz+j]? = some c:=fun i x j c hx hj=>by
   have:=zTH hsz hx hj;rw[hl,List.getElem?_append_left (List.getElem?_eq_some_iff.1 this).1];exact this
  have hlen:L.length*sz<=l.length:=by
   rw[hl,List.length_append,yO (esz:=sz) hsz];omega
  have k2':=k2.mono kp;have hcsz:cs.size=l.length:=by have:=k2.1;simpa using this
  refine .sl b 0 L.length cap sz L (fun k=>(cs[0+k]?).getD undef) rfl hcap hsz (fun x hx c hc=>?_) (fun k hk=>?_) (fun i x j c hx hj=>?_)
  ·obtain⟨i,hi⟩:=List.getElem?_of_mem hx;obtain⟨j,hj⟩:=List.getElem?_of_mem hc;obtain⟨u,q1,q2,q3⟩:=k2.cell (hat i x j c hi hj);exact q3
  ·have hlt2:0+k<cs.size:=by omega
   refine⟨?_,fun m hm=>?_⟩
   ·rw[World.cell_of_cells k1,Array.getElem?_eq_getElem hlt2];rfl
   ·simp only[if_true] at hm;injection hm with hm;subst hm
    exact hlt2
  ·obtain⟨u,q1,q2,q3⟩:=k2'.cell (hat i x j c hx hj);rw[Array.getElem?_toList] at q1;rw[Nat.zero_add,q1];exact q2
 have hv:a.tmps.getD s undef = .slice (some ⟨b,0,none⟩) L.length cap:=by
  have:=h.slots s;rw[hs] at this;exact (Rep.lit_eq this).1
 have oo:∀j t,(fun j=>if j=b then Ow.no else g.O j) j=t->t≠.no->j≠b/\g.O j=t:=fun j t h1 h2=>by
  by_cases hj:j=b
  ·simp only[hj,if_true] at h1;exact absurd h1.symm h2
  ·simp only[hj,if_false] at h1;exact⟨hj,h1⟩
 refine⟨{F:=fun j=>if j=b then some cs.size else g.F j,O:=fun j=>if j=b then .no else g.O j},
  {h with nbx:=fun j s2 q hj ho=>by (by_cases hne:j=b;(subst hne;simp only[if_true] at ho;cases ho);simp only[hne,if_false] at ho;exact h.nbx j s2 q hj ho),fext:=fun j hj=>?_,old:=fun j hj hy=>?_,hkin:=fun j hj ho=>?_,fresh:=fun j hj=>?_,freshO:=fun j hj=>?_,slots:=fun s'=>?_,own:=fun s' c z v ho hp=>?_,heap:=?_,heapO:=?_,al:=fun j t ho=>?_}⟩
 ·have:j≠b:=by omega
  simp only[this,if_false];exact h.fext j hj
 ·have:j≠b:=by omega
  simp only[this,if_false];exact h.old j hj hy
 ·exact h.hkin j hj (oo j _ ho (by simp)).2
 ·have:j≠b:=by omega
  simp only[this,if_false];exact h.fresh j hj
 ·have:j≠b:=by omega
  simp only[this,if_false];exact h.freshO j hj
 ·show SlotOk _ w s' (zBJ e.vals s _ s') _;by_cases hs':s'=s
  ·subst hs';rw[zW,hv];exact rep
  ·rw[yQ _ _ hs'];have:=h.slots s';cases hx:e.vals s' with
   | junk=>trivial
   | undef=>rw[hx] at this;exact this
   | v y=>rw[hx] at this;exact Rep.mono this kp
   | box k y =>
    rw[hx] at this;obtain⟨b',cs',E',p1,p2,p3,p4,p5,p6⟩:=this;have hb:b'≠b:=fun e1=>by subst e1;rw[hO] at p2;cases p2
    exact⟨b',cs',E',p1,by simp only[hb,if_false];exact p2,by simp only[hb,if_false];exact p3,fun b2 hb2=>p4 b2 (oo b2 _ hb2 (by simp)).2,p5,p6.mono kp⟩
   | adB s2 k off =>
    rw[hx] at this;obtain⟨b',p1,p2⟩:=this;have hb:b'≠b:=fun e1=>by subst e1;rw[hO] at p2;cases p2
    exact⟨b',p1,by simp only[hb,if_false];exact p2⟩
   | adE l =>
    rw[hx] at this;obtain⟨b',off,p1,p2⟩:=this;exact⟨b',off,p1,fun j c hj=>let ⟨u,q1,q2,q3,q4⟩:=p2 j c hj;⟨u,q1,cm _ _ q2,q3.mono kp,q4⟩⟩
 ·have ho':s'≠s/\e.own s' c=z+1:=by
   simp only[app,app1] at ho;by_cases hs':s'=s
   ·subst hs';simp at ho
   ·rw[Nat.beq_ne hs'] at ho;exact⟨hs',by simpa using ho⟩
  have hp':PlaceVal a w (e.vals s') s' c v:=by
   simp only[app,app1] at hp;rw[yQ _ _ ho'.1] at hp;exact hp
  obtain⟨t1,t2⟩:=h.own s' c z v ho'.2 hp';refine⟨?_,fun b2 hb2=>?_⟩
  ·rcases t1 with t|t|⟨b2,off,n,cap,cs2,E2,r1,r2,r3,r4,r5⟩
   ·exact .inl t
   ·exact .inr (.inl t)
   ·by_cases hnc:n=cap
    ·subst hnc;exact .inr (.inl ⟨_,_,r1⟩)
    ·have:=t2 b2 (by rw[r1];simp[zV,hnc]);have hb2:b2≠b:=fun e1=>by subst e1;rw[hO] at this;cases this
     exact .inr (.inr ⟨b2,off,n,cap,cs2,E2,r1,r2,by simp only[hb2,if_false];exact r3,r4,r5⟩)
  ·have:=t2 b2 hb2;have hb2:b2≠b:=fun e1=>by subst e1;rw[hO] at this;cases this
   simp only[hb2,if_false];exact this
 ·exact⟨List.nodup_nil,fun j hj=>by simp[app,app1,keys] at hj,fun x hx=>by simp[app,app1] at hx⟩
 ·intro j hj;simp[app,app1,keys] at hj
 ·exact h.al j t (oo j _ ho (by simp)).2
section
variable {P:Program} {T:TT}
def Wsem0 (P:Program) (q:Code) (c:CE) (n:CE->Prop) (x:Nat->CE->Prop) (r:CE->Prop):Prop :=
 ∀cx:Ctx,True->cx.hk=[]->zK cx.n q=true->∀g a w,Rel cx g (den c) a w->q.wp P (zEE cx n x r) a w
theorem Wsem0.of (hT:zN P T) (hm:P.follows .mixedOrders=true) {q:Code} {c:CE} {n:CE->Prop} {x:Nat->CE->Prop} {r:CE->Prop} (h:WcX P T q c n x r):Wsem0 P q c n x r :=
 fun _ hyk _ hk g a w hR=>jF hT hm hyk q c n x r hk h g a w hR
theorem Wsem0.seq (hT:zN P T) (hm:P.follows .mixedOrders=true) {p q:Code} {c:CE} {n:CE->Prop} {x:Nat->CE->Prop} {r:CE->Prop} (h:WcX P T p c (fun c=>Wsem0 P q c n x r) x r):Wsem0 P (.seq p q) c n x r:=by
 intro cx hyk hhk hk g a w hR;simp only[zK,Bool.and_eq_true] at hk;refine wp_seq (Go.wp_mono (jF hT hm hyk p c _ x r hk.1 h g a w hR) fun ex a w hp=>?_);cases ex with
 | normal=>obtain⟨c',g',h1,h2⟩:=hp;exact h1 cx hyk hhk hk.2 g' a w h2
 | _=>exact hp
theorem Wsem0.freeze {q:Code} {c:CE} {n:CE->Prop} {x:Nat->CE->Prop} {r:CE->Prop} (s sz:Nat) {b cap:Nat} {l L zs:List AV} (hh:c.hp=[(b,HO.cells l)]) (hs:yA c.vs s = .v (.lit (.slice (some ⟨b,0,none⟩) L.length cap)))
  (hcap:L.length<=cap) (hsz:∀x∈L,x.cells.length=sz) (hl:l=L.flatMap AV.cells++zs) (h:Wsem0 P q (capp c [.val s (.v (.sl L)),.clr s,.heap []]) n x r):Wsem0 P q c n x r:=by
 intro cx hyk hhk hk g a w hR;obtain⟨g',hR'⟩:=hR.freezeK hhk (e:=den c) hh hs hcap hsz hl;exact h cx hyk hhk hk g' a w (by rw[yC];exact hR')
theorem zOQ (hT:zN P T) (hm:P.follows .mixedOrders=true) {f:Nat} {fn:Func} {c:Code} (hf:P.funcs[f]? = some fn) (hb:fn.body=some c) {vs:List Value} {args:List AV} {os:List Nat} {hin:List (Nat×HO)}
  (hlen:args.length<=fn.ntmps) (hk:zK fn.ntmps c=true) {post:AV->Nat->List (Nat×HO)->Prop} {F:Nat->Option Nat} {w:World}
  (hw:Wsem0 P c (xN args os hin) (fun c=>xA T fn.results.toList post (den c)) (fun _ _=>False) (fun c=>xA T fn.results.toList post (den c)))
  (hyk:zS vs os=[]) (hin0:keys hin=[]) (hfr:Fresh F w) (hh:HeapIn F w hin) (ha:qQ F w vs args os) (hy:∀b∈zS vs os,b∉keys hin):Calls P f vs.toArray w (yJ F (keys hin) (zS vs os) w post):=by
 obtain⟨g,hR⟩:=wV hfr hh ha hy (n:=fn.ntmps) (by rw[ha.len];exact hlen);refine calls_of_wp hf hb (Go.wp_mono (hw _ trivial hin0 hk g _ _ (hR.weaken (xH args os hin) (wF args os hin) (fun _=>rfl) rfl)) fun ex a w' hp=>?_);have fin:∀{e:Env} {g:G},xA T fn.results.toList post e->Rel {n:=fn.ntmps,W:=w,F:=F,hk:=keys hin,yk:=zS vs os} g e a w'->a.defers=[]/\∃v,(results fn a.tmps).run P w' = .ok v w'/\yJ F (keys hin) (zS vs os) w post (.returned v) w':=fun {e g} hr hR=>by
  unfold xA at hr;split at hr
  ·rename_i r hres;obtain⟨v,p1,p2,p3⟩:=wM hT hR hres;refine⟨hR.defers,v,p1,v,r,_,e.heap,g.F,rfl,hr,p2,fun sz ho=>?_,hR.kept,hR.fext,hR.fresh,hR.heap,fun b hb=>?_⟩
   ·obtain⟨q1,q2⟩:=p3 sz ho;refine⟨q1,fun b hb=>?_⟩;obtain⟨s,hs⟩:=q2 b hb;by_cases h1:b∈zS vs os
    ·exact .inl h1
    ·refine .inr ⟨?_,fun hk=>by have:=hR.heapO b hk;rw[hs] at this;cases this⟩;rcases Nat.lt_or_ge b w.heap.size with h2|h2
     ·rcases hR.old b h2 h1 with h3|⟨_,h3⟩<;>(rw[hs] at h3;cases h3)
     ·exact h2
   ·rcases Nat.lt_or_ge b w.heap.size with h2|h2
    ·exact .inl (hR.hkin b h2 (hR.heapO b hb))
    ·exact .inr h2
  ·exact hr.elim
 cases ex with
 | normal=>obtain⟨e,g',h1,h2⟩:=hp;exact fin h1 h2
 | ret=>obtain⟨e,g',h1,h2⟩:=hp;exact fin h1 h2
 | exit i=>obtain⟨e,g',h1,h2⟩:=hp;exact h1.elim
 | goto l=>exact hp.elim
 | panic ch=>exact hp.elim
 | outgrown=>exact hp.elim
theorem zI4 (hT : zN P T) (hm : P.follows .mixedOrders = true) {f : Nat} {fn : Func} {c : Code} (hf : P.funcs[f]? = some fn) (hb : fn.body = some c) (hname : (fn.name == "runtime.NumGoroutine") = false) {args : List AV}
  (hlen:args.length<=fn.ntmps) (hk:zK fn.ntmps c=true) {r:AV}
  (hw:Wsem0 P c (xN args [] []) (fun c=>zH1 T fn.results.toList r (den c)) (fun _ _=>False) (fun c=>zH1 T fn.results.toList r (den c))):zB P f args r:=by
 refine⟨f,_,_,rfl,⟨fn,hf,by rw[hb];rfl,hname⟩,fun F w vs hfr hh ha hy=>?_⟩;have e1 : #[]++vs.toArray ++ #[]=vs.toArray:=by simp
 rw[e1];refine (zOQ hT hm hf hb hlen hk (post:=fun r' _ _=>r'=r) ?_ (by cases vs<;>rfl) rfl hfr hh ha hy).mono fun en w' hp=>?_
 ·exact hw
 ·obtain⟨v,r',n,hout,F',rfl,p1,p2,p3,p4,p5,p6,p7,p8⟩:=hp;exact⟨v,r',0,[],F',rfl,⟨p1,rfl,rfl⟩,p2,fun sz h=>(by cases h),p4,p5,p6,⟨List.nodup_nil,fun b hb=>by simp[keys] at hb,fun x hx=>by simp at hx⟩,fun b hb=>by simp[keys] at hb⟩
end
open Go
variable {P:Program}
theorem CallsG.less {fv:Value} {hin:List (Nat×HO)} {args:List AV} {os:List Nat} {post post':AV->Nat->List (Nat×HO)->Prop} (hc:CallsG P fv hin args os post)
  (hp:∀r o h,post r o h->∃h1 h2,h=h1++h2/\post' r o h1):CallsG P fv hin args os post':=by
 obtain⟨f,first,cap,he,hen,hcalls⟩:=hc;refine⟨f,first,cap,he,hen,fun F w vs h1 h2 h3 h4=>(hcalls F w vs h1 h2 h3 h4).mono fun e w' hpo=>?_⟩;obtain⟨v,r,o,hout,F',rfl,hpost,p2,p3,p4,p5,p6,p7,p8⟩:=hpo;obtain⟨ha,hb,rfl,hpost'⟩:=hp r o hout hpost;have hk:keys (ha++hb)=keys ha++keys hb:=by simp[keys]
 refine⟨v,r,o,ha,F',rfl,hpost',p2,fun sz h=>⟨(p3 sz h).1,fun b hbk=>?_⟩,p4,p5,p6,⟨?_,fun b hbm=>p7.shut b (by rw[hk];exact List.mem_append_left _ hbm),fun x hx=>p7.ok x (List.mem_append_left _ hx)⟩,fun b hbm=>p8 b (by rw[hk];exact List.mem_append_left _ hbm)⟩
 ·rcases (p3 sz h).2 b hbk with h|⟨h,h'⟩
  ·exact .inl h
  ·exact .inr ⟨h,fun hm=>h' (by rw[hk];exact List.mem_append_left _ hm)⟩
 ·have:=p7.nodup;rw[hk] at this;exact (List.nodup_append.1 this).1
theorem CallsG.less0 {fv:Value} {hin:List (Nat×HO)} {args:List AV} {os:List Nat} {post post':AV->Nat->List (Nat×HO)->Prop} (hc:CallsG P fv hin args os post)
  (hp:∀r o h,post r o h->∃h1 h2,h=h1++h2/\post' r 0 h1):CallsG P fv hin args os post':=by
 obtain⟨f,first,cap,he,hen,hcalls⟩:=hc;refine⟨f,first,cap,he,hen,fun F w vs h1 h2 h3 h4=>(hcalls F w vs h1 h2 h3 h4).mono fun e w' hpo=>?_⟩;obtain⟨v,r,o,hout,F',rfl,hpost,p2,p3,p4,p5,p6,p7,p8⟩:=hpo;obtain⟨ha,hb,rfl,hpost'⟩:=hp r o hout hpost;have hk:keys (ha++hb)=keys ha++keys hb:=by simp[keys]
 refine⟨v,r,0,ha,F',rfl,hpost',p2,fun sz h=>by omega,p4,p5,p6,⟨?_,fun b hbm=>p7.shut b (by rw[hk];exact List.mem_append_left _ hbm),fun x hx=>p7.ok x (List.mem_append_left _ hx)⟩,fun b hbm=>p8 b (by rw[hk];exact List.mem_append_left _ hbm)⟩;have:=p7.nodup;rw[hk] at this;exact (List.nodup_append.1 this).1
theorem CallsG.lessS {fv:Value} {hin:List (Nat×HO)} {args:List AV} {os:List Nat} {post post':AV->Nat->List (Nat×HO)->Prop} (hc:CallsG P fv hin args os post)
  (hp:∀r o h,post r o h->∃h1,h1.Sublist h/\post' r 0 h1):CallsG P fv hin args os post':=by
 obtain⟨f,first,cap,he,hen,hcalls⟩:=hc;refine⟨f,first,cap,he,hen,fun F w vs h1 h2 h3 h4=>(hcalls F w vs h1 h2 h3 h4).mono fun e w' hpo=>?_⟩;obtain⟨v,r,o,hout,F',rfl,hpost,p2,p3,p4,p5,p6,p7,p8⟩:=hpo;obtain⟨ha,hs,hpost'⟩:=hp r o hout hpost;have hk:(keys ha).Sublist (keys hout):=hs.map _;exact⟨v,r,0,ha,F',rfl,hpost',p2,fun sz h=>by omega,p4,p5,p6,⟨hk.nodup p7.nodup,fun b hbm=>p7.shut b (hk.subset hbm),fun x hx=>p7.ok x (hs.subset hx)⟩,fun b hbm=>p8 b (hk.subset hbm)⟩
theorem CallsG.post {fv:Value} {hin:List (Nat×HO)} {args:List AV} {os:List Nat} {post post':AV->Nat->List (Nat×HO)->Prop} (hc:CallsG P fv hin args os post) (hp:∀r o h,post r o h->post' r o h):CallsG P fv hin args os post' :=
 hc.less fun r o h hpo=>⟨h,[],by simp,hp r o h hpo⟩
end Fp
