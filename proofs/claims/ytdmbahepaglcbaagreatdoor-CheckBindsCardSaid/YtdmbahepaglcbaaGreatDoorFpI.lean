/- Functions whose result is a slice of their own, or nil. No condition. -/
import Derived.Test.YtdmbahepaglcbaaGreatDoorFpH
set_option linter.unusedSimpArgs false
set_option linter.unusedVariables false
namespace Fp
open Go Go.MapKept
section
variable {P:Program} {T:TT}
end
section
variable {P:Program} {T:TT}
end
open Go
variable {P:Program}
theorem Frz.all {h:List (Nat×HO)} {F:Nat->Option Nat} {w:World} (hh:HeapIn F w h):∀{vs:List Value} {args args':List AV},args.length=args'.length->(∀(i:Nat) a a',args[i]? = some a->args'[i]? = some a'->Frz h a a') ->
  (∀(i:Nat) v a,vs[i]? = some v->args[i]? = some a->Rep F w v a)->∀(i:Nat) v a,vs[i]? = some v->args'[i]? = some a->Rep (fun j=>if j∈keys h then none else F j) w v a:=by
 intro vs args args' hl hf hr i v a hv ha;have hi:i<args.length:=by rw[hl];exact (List.getElem?_eq_some_iff.1 ha).1
 have h1:=List.getElem?_eq_getElem hi;exact (hf i _ a h1 ha).rep hh (hr i v _ hv h1)
theorem CallsG.lend {fv:Value} {hin:List (Nat×HO)} {args args':List AV} {r:AV} (hc:zDC P fv args' r) (hl:args.length=args'.length) (hf:∀(i:Nat) a a',args[i]? = some a->args'[i]? = some a'->Frz hin a a')
  (hr:∀F w v,Rep F w v r->∀F' w',Rep F' w' v r):CallsG P fv hin args [] fun r' o h=>r'=r/\o=0/\h=hin:=by
 obtain⟨f,first,cap,he,hen,hcalls⟩:=hc;refine⟨f,first,cap,he,hen,fun F w vs h1 h2 h3 h4=>?_⟩;have hyk:yB vs []=[]:=by cases vs<;>rfl
 have hlt:∀b∈keys hin,b<w.heap.size:=fun b hb=>by
  obtain⟨x,hx,rfl⟩:=List.mem_map.1 hb;exact (h2.ok x hx).lt
 have hfr:Fresh (fun j=>if j∈keys hin then none else F j) w:=fun b hb=>by
  show (if b∈keys hin then none else F b)=none;split
  ·rfl
  ·exact h1 b hb
 have hno:∀(i:Nat) (sz:Nat),([]:List Nat)[i]? = some (sz+1)->False:=fun i sz h=>by simp at h
 have hci:=hcalls _ w vs hfr ⟨List.nodup_nil,fun b hb=>by simp[keys] at hb,fun x hx=>by simp at hx⟩
  ⟨h3.len.trans hl,Frz.all h2 hl hf h3.rep,fun i v sz hv ho=>(hno i sz ho).elim,by rw[hyk];exact List.nodup_nil⟩ (by rw[hyk];simp)
 refine hci.mono fun e w' hpo=>?_;obtain⟨v,r',o,hout,F',rfl,⟨rfl,rfl,rfl⟩,p2,p3,p4,p5,p6,p7,p8⟩:=hpo;rw[hyk] at p4 p5⊢;have hsame:∀b,b<w.heap.size->w'.heap[b]? = w.heap[b]?:=fun b hb=>by
  rcases p4.block b hb with h|⟨h,_⟩|h
  ·simp[keys] at h
  ·simp at h
  ·exact h
 have hF:∀b,b<w.heap.size->(if b∈keys hin then some 0 else F' b)=F b:=fun b hb=>by
  by_cases hk:b∈keys hin
  ·rw[if_pos hk];exact (h2.shut b hk).symm
  ·rw[if_neg hk];rcases p5 b hb with h|⟨h,_⟩
   ·rw[h];simp[hk]
   ·simp at h
 have kp:Keeps F w (fun b=>if b∈keys hin then some 0 else F' b) w':=by
  refine⟨fun b k u hc hm=>?_,fun b es c hc hm=>?_⟩
  ·have hb:=World.lt_of_cell hc;exact⟨by rw[World.cell_of_heap (hsame b hb)];exact hc,fun m hm'=>hm m (by rw[<-hF b hb];exact hm')⟩
  ·have hb:=zM hc;exact⟨(hsame b hb).trans hc,zKP hm (hF b hb)⟩
 refine⟨v,_,0,hin,fun b=>if b∈keys hin then some 0 else F' b,rfl,⟨rfl,rfl,rfl⟩,hr _ _ _ p2 _ _,fun sz h=>by omega,?_,fun b hb => .inl (hF b hb),fun b hb=>?_,⟨h2.nodup,fun b hb=>by simp[hb],fun x hx=>(h2.ok x hx).grow kp (hsame x.1)⟩,fun b hb => .inl hb⟩
 ·exact⟨p4.os,p4.tape,p4.output,p4.size,fun b hb => .inr (.inr (hsame b hb))⟩
 ·have:b∉keys hin:=fun hk=>by have:=hlt b hk;have:=p4.size;omega
  simp only[this,if_false];exact p6 b hb
theorem CallsG.less {fv:Value} {hin:List (Nat×HO)} {args:List AV} {os:List Nat} {post post':AV->Nat->List (Nat×HO)->Prop} (hc:CallsG P fv hin args os post)
  (hp:∀r o h,post r o h->∃h1 h2,h=h1++h2/\post' r o h1):CallsG P fv hin args os post':=by
 obtain⟨f,first,cap,he,hen,hcalls⟩:=hc;refine⟨f,first,cap,he,hen,fun F w vs h1 h2 h3 h4=>(hcalls F w vs h1 h2 h3 h4).mono fun e w' hpo=>?_⟩;obtain⟨v,r,o,hout,F',rfl,hpost,p2,p3,p4,p5,p6,p7,p8⟩:=hpo;obtain⟨ha,hb,rfl,hpost'⟩:=hp r o hout hpost;have hk:keys (ha++hb)=keys ha++keys hb:=by simp[keys]
 refine⟨v,r,o,ha,F',rfl,hpost',p2,fun sz h=>⟨(p3 sz h).1,fun b hbk=>?_⟩,p4,p5,p6,⟨?_,fun b hbm=>p7.shut b (by rw[hk];exact List.mem_append_left _ hbm),fun x hx=>p7.ok x (List.mem_append_left _ hx)⟩,fun b hbm=>p8 b (by rw[hk];exact List.mem_append_left _ hbm)⟩
 ·rcases (p3 sz h).2 b hbk with h|⟨h,h'⟩
  ·exact .inl h
  ·exact .inr ⟨h,fun hm=>h' (by rw[hk];exact List.mem_append_left _ hm)⟩
 ·have:=p7.nodup;rw[hk] at this;exact (List.nodup_append.1 this).1
theorem CallsG.less0 {fv:Value} {hin:List (Nat×HO)} {args:List AV} {os:List Nat} {post post':AV->Nat->List (Nat×HO)->Prop} (hc:CallsG P fv hin args os post)
  (hp:∀r o h,post r o h->∃h1 h2,h=h1++h2/\post' r 0 h1):CallsG P fv hin args os post':=by
 obtain⟨f,first,cap,he,hen,hcalls⟩:=hc;refine⟨f,first,cap,he,hen,fun F w vs h1 h2 h3 h4=>(hcalls F w vs h1 h2 h3 h4).mono fun e w' hpo=>?_⟩;obtain⟨v,r,o,hout,F',rfl,hpost,p2,p3,p4,p5,p6,p7,p8⟩:=hpo;obtain⟨ha,hb,rfl,hpost'⟩:=hp r o hout hpost;have hk:keys (ha++hb)=keys ha++keys hb:=by simp[keys]
 refine⟨v,r,0,ha,F',rfl,hpost',p2,fun sz h=>by omega,p4,p5,p6,⟨?_,fun b hbm=>p7.shut b (by rw[hk];exact List.mem_append_left _ hbm),fun x hx=>p7.ok x (List.mem_append_left _ hx)⟩,fun b hbm=>p8 b (by rw[hk];exact List.mem_append_left _ hbm)⟩;have:=p7.nodup;rw[hk] at this;exact (List.nodup_append.1 this).1
theorem CallsG.lessS {fv:Value} {hin:List (Nat×HO)} {args:List AV} {os:List Nat} {post post':AV->Nat->List (Nat×HO)->Prop} (hc:CallsG P fv hin args os post)
  (hp:∀r o h,post r o h->∃h1,h1.Sublist h/\post' r 0 h1):CallsG P fv hin args os post':=by
 obtain⟨f,first,cap,he,hen,hcalls⟩:=hc;refine⟨f,first,cap,he,hen,fun F w vs h1 h2 h3 h4=>(hcalls F w vs h1 h2 h3 h4).mono fun e w' hpo=>?_⟩;obtain⟨v,r,o,hout,F',rfl,hpost,p2,p3,p4,p5,p6,p7,p8⟩:=hpo;obtain⟨ha,hs,hpost'⟩:=hp r o hout hpost;have hk:(keys ha).Sublist (keys hout):=hs.map _;exact⟨v,r,0,ha,F',rfl,hpost',p2,fun sz h=>by omega,p4,p5,p6,⟨hk.nodup p7.nodup,fun b hbm=>p7.shut b (hk.subset hbm),fun x hx=>p7.ok x (hs.subset hx)⟩,fun b hbm=>p8 b (hk.subset hbm)⟩
theorem CallsG.post {fv:Value} {hin:List (Nat×HO)} {args:List AV} {os:List Nat} {post post':AV->Nat->List (Nat×HO)->Prop} (hc:CallsG P fv hin args os post) (hp:∀r o h,post r o h->post' r o h):CallsG P fv hin args os post' :=
 hc.less fun r o h hpo=>⟨h,[],by simp,hp r o h hpo⟩
end Fp
