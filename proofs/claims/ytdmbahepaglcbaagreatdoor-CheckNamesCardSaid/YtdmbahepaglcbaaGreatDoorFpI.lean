/- Functions whose result is a slice of their own, or nil. No condition. -/
import Derived.Test.YtdmbahepaglcbaaGreatDoorFpH
set_option linter.unusedSimpArgs false
set_option linter.unusedVariables false
namespace Fp
open Go Go.MapKept
section
variable {P:Program} {T:TT}
end
section
variable {P:Program} {T:TT}
end
open Go
variable {P:Program}
theorem CallsG.less {fv:Value} {hin:List (Nat×HO)} {args:List AV} {os:List Nat} {post post':AV->Nat->List (Nat×HO)->Prop} (hc:CallsG P fv hin args os post)
  (hp:∀r o h,post r o h->∃h1 h2,h=h1++h2/\post' r o h1):CallsG P fv hin args os post':=by
 obtain⟨f,first,cap,he,hen,hcalls⟩:=hc;refine⟨f,first,cap,he,hen,fun F w vs h1 h2 h3 h4=>(hcalls F w vs h1 h2 h3 h4).mono fun e w' hpo=>?_⟩;obtain⟨v,r,o,hout,F',rfl,hpost,p2,p3,p4,p5,p6,p7,p8⟩:=hpo;obtain⟨ha,hb,rfl,hpost'⟩:=hp r o hout hpost;have hk:keys (ha++hb)=keys ha++keys hb:=by simp[keys]
 refine⟨v,r,o,ha,F',rfl,hpost',p2,fun sz h=>⟨(p3 sz h).1,fun b hbk=>?_⟩,p4,p5,p6,⟨?_,fun b hbm=>p7.shut b (by rw[hk];exact List.mem_append_left _ hbm),fun x hx=>p7.ok x (List.mem_append_left _ hx)⟩,fun b hbm=>p8 b (by rw[hk];exact List.mem_append_left _ hbm)⟩
 ·rcases (p3 sz h).2 b hbk with h|⟨h,h'⟩
  ·exact .inl h
  ·exact .inr ⟨h,fun hm=>h' (by rw[hk];exact List.mem_append_left _ hm)⟩
 ·have:=p7.nodup;rw[hk] at this;exact (List.nodup_append.1 this).1
theorem CallsG.less0 {fv:Value} {hin:List (Nat×HO)} {args:List AV} {os:List Nat} {post post':AV->Nat->List (Nat×HO)->Prop} (hc:CallsG P fv hin args os post)
  (hp:∀r o h,post r o h->∃h1 h2,h=h1++h2/\post' r 0 h1):CallsG P fv hin args os post':=by
 obtain⟨f,first,cap,he,hen,hcalls⟩:=hc;refine⟨f,first,cap,he,hen,fun F w vs h1 h2 h3 h4=>(hcalls F w vs h1 h2 h3 h4).mono fun e w' hpo=>?_⟩;obtain⟨v,r,o,hout,F',rfl,hpost,p2,p3,p4,p5,p6,p7,p8⟩:=hpo;obtain⟨ha,hb,rfl,hpost'⟩:=hp r o hout hpost;have hk:keys (ha++hb)=keys ha++keys hb:=by simp[keys]
 refine⟨v,r,0,ha,F',rfl,hpost',p2,fun sz h=>by omega,p4,p5,p6,⟨?_,fun b hbm=>p7.shut b (by rw[hk];exact List.mem_append_left _ hbm),fun x hx=>p7.ok x (List.mem_append_left _ hx)⟩,fun b hbm=>p8 b (by rw[hk];exact List.mem_append_left _ hbm)⟩;have:=p7.nodup;rw[hk] at this;exact (List.nodup_append.1 this).1
theorem CallsG.lessS {fv:Value} {hin:List (Nat×HO)} {args:List AV} {os:List Nat} {post post':AV->Nat->List (Nat×HO)->Prop} (hc:CallsG P fv hin args os post)
  (hp:∀r o h,post r o h->∃h1,h1.Sublist h/\post' r 0 h1):CallsG P fv hin args os post':=by
 obtain⟨f,first,cap,he,hen,hcalls⟩:=hc;refine⟨f,first,cap,he,hen,fun F w vs h1 h2 h3 h4=>(hcalls F w vs h1 h2 h3 h4).mono fun e w' hpo=>?_⟩;obtain⟨v,r,o,hout,F',rfl,hpost,p2,p3,p4,p5,p6,p7,p8⟩:=hpo;obtain⟨ha,hs,hpost'⟩:=hp r o hout hpost;have hk:(keys ha).Sublist (keys hout):=hs.map _;exact⟨v,r,0,ha,F',rfl,hpost',p2,fun sz h=>by omega,p4,p5,p6,⟨hk.nodup p7.nodup,fun b hbm=>p7.shut b (hk.subset hbm),fun x hx=>p7.ok x (hs.subset hx)⟩,fun b hbm=>p8 b (hk.subset hbm)⟩
theorem CallsG.post {fv:Value} {hin:List (Nat×HO)} {args:List AV} {os:List Nat} {post post':AV->Nat->List (Nat×HO)->Prop} (hc:CallsG P fv hin args os post) (hp:∀r o h,post r o h->post' r o h):CallsG P fv hin args os post' :=
 hc.less fun r o h hpo=>⟨h,[],by simp,hp r o h hpo⟩
end Fp
