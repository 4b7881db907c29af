/- Two types become one. No condition but that what is known came to be known one by one, and has no type for all. -/
import Derived.Test.YtebmimnglcdogaaGreatDoorH
set_option linter.unusedSimpArgs false
set_option linter.unusedVariables false
namespace Go.Proofs.YtebmimnglcdogaaGreatDoor.Ck
open Go Fp
set_option maxRecDepth 10000
set_option maxHeartbeats 16000000
set_option linter.unusedVariables false
set_option linter.unusedSimpArgs false
def zHR (l:Kn) (a b:Tp) (e:Int) (l':Kn):Prop := ∀b1 b2 k,CallsG Tryz.prog (fnv zDY) (stH b1 b2 k l) [sP b1,eTy a,eTy b] [] fun r o h=>r = .lit (.int .i64 e)/\o=0/\h=stH b1 b2 k l'
theorem zQY {u v:Tp} (hu:∀m,u≠.mt m) (hf:flat u) (hv:∀m,v≠.mt m) (hg:flat v) (h1:u.form=v.form) (h2:u.nam=v.nam):(u=v/\u.args=[])∨∃a1 a2 b1 b2,u = .app a1 a2/\v = .app b1 b2:=by
 cases u with
 | mt m=>exact absurd rfl (hu m)
 | all s a=>exact hf.elim
 | app a1 a2 =>
  obtain⟨b1,b2,rfl⟩:=Tp.is_app (t:=v) h1.symm;exact .inr ⟨_,_,_,_,rfl,rfl⟩
 | no =>
  cases v<;>first|exact .inl ⟨rfl,rfl⟩|(simp[Tp.form] at h1;done)
 | var s =>
  obtain⟨s',rfl⟩:=Tp.is_var (t:=v) h1.symm;simp only[Tp.nam] at h2;subst h2;exact .inl ⟨rfl,rfl⟩
 | con s =>
  obtain⟨s',rfl⟩:=Tp.is_con (t:=v) h1.symm;simp only[Tp.nam] at h2;subst h2;exact .inl ⟨rfl,rfl⟩
theorem one_step {l:Kn} (h:Ok l) (hfl:FlatK l) {a b:Tp} (ha:flat a) (hb:flat b)
  (ih:∀u v,Lk l a u->Lk l b v->∀a1 a2 b1 b2,u = .app a1 a2->v = .app b1 b2->(∃e l1,OneS l a1 b1 e l1/\zHR l a1 b1 e l1/\(e=0->∃e2 l2,OneS l1 a2 b2 e2 l2/\zHR l1 a2 b2 e2 l2))) :
  ∃e l',OneS l a b e l'/\zHR l a b e l':=by
 obtain⟨u,hu,hL1⟩:=zJ3 h a;obtain⟨v,hv,hL2⟩:=zJ3 h b;have huf:flat u:=hu.keep flat ha hfl;have hvf:flat v:=hv.keep flat hb hfl;by_cases hum:u.form=1
 ·obtain⟨n,rfl⟩:=Tp.is_mt hum;refine⟨_,_,OneS.of_look hu hv (zTD h hfl hu.unknown (fun m e=>hv.stop m e) hvf),fun b1 b2 k=>?_⟩;have hB:=bind_ok h hu.unknown (fun m e=>hv.stop m e) b1 b2 k;have hL1:=hL1 b1 b2 k;have hL2:=hL2 b1 b2 k;generalize yY l n v=q at *;refine zJ (first:=[]) (cap:=[]) ttok mixed Tryz.func116 rfl (by rfl) rfl (Nat.le_of_ble_eq_true rfl) (by kernel_rfl) ?_;refine .inr (.inr (.inl ⟨[0,1],stH b1 b2 k l,_,rfl,by decide,hL1,?_⟩));refine .inr (.inr (.inl ⟨[0,1],stH b1 b2 k l,_,rfl,by decide,hL2,?_⟩));refine⟨by kernel_rfl,?_⟩;refine⟨fun hbs=>?_,fun hbs=>?_⟩<;>first|(exfalso;revert hbs;intro hbs;cases hbs;done)|skip
  refine .inr (.inr (.inr (.inl ⟨[0,1],stH b1 b2 k l,stH b1 b2 k q.2,_,rfl,by decide,rfl,hB,?_⟩)));exact⟨rfl,rfl,rfl⟩
 by_cases hvm:v.form=1
 ·obtain⟨n,rfl⟩:=Tp.is_mt hvm;refine⟨_,_,OneS.of_look hu hv ((zTD h hfl hv.unknown (fun m e=>hu.stop m e) huf).symm (.bindR hv.unknown (fun m e=>hum (by rw[e];rfl)))),fun b1 b2 k=>?_⟩;have hB:=bind_ok h hv.unknown (fun m e=>hu.stop m e) b1 b2 k;have hL1:=hL1 b1 b2 k;have hL2:=hL2 b1 b2 k;generalize yY l n u=q at *;refine zJ (first:=[]) (cap:=[]) ttok mixed Tryz.func116 rfl (by rfl) rfl (Nat.le_of_ble_eq_true rfl) (by kernel_rfl) ?_;refine .inr (.inr (.inl ⟨[0,1],stH b1 b2 k l,_,rfl,by decide,hL1,?_⟩));refine .inr (.inr (.inl ⟨[0,1],stH b1 b2 k l,_,rfl,by decide,hL2,?_⟩));refine⟨by kernel_rfl,?_⟩;refine⟨fun hbs=>?_,fun hbs=>?_⟩<;>first|(exfalso;revert hbs;(simp[hum]);done)|skip
  refine⟨fun hbs=>?_,fun hbs=>?_⟩<;>first|(exfalso;revert hbs;intro hbs;cases hbs;done)|skip
  refine .inr (.inr (.inr (.inl ⟨[0,1],stH b1 b2 k l,stH b1 b2 k q.2,_,rfl,by decide,rfl,hB,?_⟩)));exact⟨rfl,rfl,rfl⟩
 have hum':∀m,u≠.mt m:=fun m e=>hum (by rw[e];rfl);have hvm':∀m,v≠.mt m:=fun m e=>hvm (by rw[e];rfl);have hu5:u.form≠5:=fun e=>by obtain⟨s,x,rfl⟩:=Tp.is_all e;exact huf
 by_cases hff:u.form=v.form
 rotate_left
 ·refine⟨31,l,OneS.of_look hu hv (zO9 h hfl hum' hvm' (.inl hff)),fun b1 b2 k=>?_⟩;have hL1:=hL1 b1 b2 k;have hL2:=hL2 b1 b2 k;refine zJ (first:=[]) (cap:=[]) ttok mixed Tryz.func116 rfl (by rfl) rfl (Nat.le_of_ble_eq_true rfl) (by kernel_rfl) ?_;refine .inr (.inr (.inl ⟨[0,1],stH b1 b2 k l,_,rfl,by decide,hL1,?_⟩));refine .inr (.inr (.inl ⟨[0,1],stH b1 b2 k l,_,rfl,by decide,hL2,?_⟩));refine⟨by kernel_rfl,?_⟩;refine⟨fun hbs=>?_,fun hbs=>?_⟩<;>first|(exfalso;revert hbs;(simp[hum]);done)|skip
  refine⟨fun hbs=>?_,fun hbs=>?_⟩<;>first|(exfalso;revert hbs;(simp[hvm]);done)|skip
  refine⟨fun hbs=>?_,fun hbs=>?_⟩<;>first|(exfalso;revert hbs;(simp[hff]);done)|skip
  exact⟨rfl,rfl,rfl⟩
 by_cases hnn:u.nam=v.nam
 rotate_left
 ·refine⟨31,l,OneS.of_look hu hv (zO9 h hfl hum' hvm' (.inr hnn)),fun b1 b2 k=>?_⟩;have hL1:=hL1 b1 b2 k;have hL2:=hL2 b1 b2 k;refine zJ (first:=[]) (cap:=[]) ttok mixed Tryz.func116 rfl (by rfl) rfl (Nat.le_of_ble_eq_true rfl) (by kernel_rfl) ?_;refine .inr (.inr (.inl ⟨[0,1],stH b1 b2 k l,_,rfl,by decide,hL1,?_⟩));refine .inr (.inr (.inl ⟨[0,1],stH b1 b2 k l,_,rfl,by decide,hL2,?_⟩));refine⟨by kernel_rfl,?_⟩;refine⟨fun hbs=>?_,fun hbs=>?_⟩<;>first|(exfalso;revert hbs;(simp[hum]);done)|skip
  refine⟨fun hbs=>?_,fun hbs=>?_⟩<;>first|(exfalso;revert hbs;(simp[hvm]);done)|skip
  refine⟨fun hbs=>?_,fun hbs=>?_⟩<;>first|(exfalso;revert hbs;(simp[hff]);done)|skip
  refine⟨fun hbs=>?_,fun hbs=>?_⟩<;>first|(exfalso;revert hbs;(simp[hu5]);done)|skip
  refine⟨fun hbs=>?_,fun hbs=>?_⟩<;>first|(exfalso;revert hbs;(simp[hnn]);done)|skip
  exact⟨rfl,rfl,rfl⟩
 rcases zQY hum' huf hvm' hvf hff hnn with⟨rfl,hargs⟩|⟨a1,a2,c1,c2,rfl,rfl⟩
 ·refine⟨0,l,OneS.of_look hu hv (zU6 h hfl u hum' hargs),fun b1 b2 k=>?_⟩;have hL1:=hL1 b1 b2 k;have hL2:=hL2 b1 b2 k;have hea:u.eArgs=[]:=by rw[u.eArgs_eq,hargs];rfl
  refine zJ (first:=[]) (cap:=[]) ttok mixed Tryz.func116 rfl (by rfl) rfl (Nat.le_of_ble_eq_true rfl) (by kernel_rfl) ?_;refine .inr (.inr (.inl ⟨[0,1],stH b1 b2 k l,_,rfl,by decide,hL1,?_⟩));refine .inr (.inr (.inl ⟨[0,1],stH b1 b2 k l,_,rfl,by decide,hL2,?_⟩));refine⟨by kernel_rfl,?_⟩;refine⟨fun hbs=>?_,fun hbs=>?_⟩<;>first|(exfalso;revert hbs;(simp[hum]);done)|skip
  refine⟨fun hbs=>?_,fun hbs=>?_⟩<;>first|(exfalso;revert hbs;(simp[hum]);done)|skip
  refine⟨fun hbs=>?_,fun hbs=>?_⟩<;>first|(exfalso;revert hbs;(simp);done)|skip
  refine⟨fun hbs=>?_,fun hbs=>?_⟩<;>first|(exfalso;revert hbs;(simp[hu5]);done)|skip
  refine⟨fun hbs=>?_,fun hbs=>?_⟩<;>first|(exfalso;revert hbs;(simp);done)|skip
  refine⟨Unit,fun _=>{vs:=[(59,sv 0),(60,sv 0)],hp:=stH b1 b2 k l},fun _=>0,(),⟨⟨svc (by rw[hea];rfl),rfl,trivial⟩,trivial,rfl⟩,?_⟩;rintro⟨⟩;refine⟨fun hbs=>?_,fun hbs=>?_⟩<;>first|(exfalso;revert hbs;intro hbs;cases hbs;done)|skip
  exact⟨rfl,rfl,rfl⟩
 ·obtain⟨e1,l1,s1,k1,r1⟩:=ih _ _ hu hv a1 a2 c1 c2 rfl rfl;have start:∀(e:Int) (l':Kn) (L:Nat->Kn) (I:Nat->Prop),L 0=l->I 0->(∀i,I i->i<=2)->(∀i x y,I i->i<2->([a1,a2][i]? = some x)->([c1,c2][i]? = some y)->∃ei,zHR (L i) x y ei (L (i+1))/\((ei=0/\I (i+1))∨(ei≠0/\ei=e/\L (i+1)=l')))->(I 2->e=0/\L 2=l')->zHR l a b e l':=fun e l' L I hL0 hI0 hI2 hst hfin b1 b2 k=>by
   have hL1:=hL1 b1 b2 k;have hL2:=hL2 b1 b2 k;refine zJ (first:=[]) (cap:=[]) ttok mixed Tryz.func116 rfl (by rfl) rfl (Nat.le_of_ble_eq_true rfl) (by kernel_rfl) ?_;refine .inr (.inr (.inl ⟨[0,1],stH b1 b2 k l,_,rfl,by decide,hL1,?_⟩));refine .inr (.inr (.inl ⟨[0,1],stH b1 b2 k l,_,rfl,by decide,hL2,?_⟩));refine⟨by kernel_rfl,?_⟩;refine⟨fun hbs=>?_,fun hbs=>?_⟩<;>first|(exfalso;revert hbs;intro hbs;cases hbs;done)|skip
   refine⟨fun hbs=>?_,fun hbs=>?_⟩<;>first|(exfalso;revert hbs;intro hbs;cases hbs;done)|skip
   refine⟨fun hbs=>?_,fun hbs=>?_⟩<;>first|(exfalso;revert hbs;intro hbs;cases hbs;done)|skip
   refine⟨fun hbs=>?_,fun hbs=>?_⟩<;>first|(exfalso;revert hbs;intro hbs;cases hbs;done)|skip
   refine⟨fun hbs=>?_,fun hbs=>?_⟩<;>first|(exfalso;revert hbs;(simp[Tp.nam]);done)|skip
   refine⟨{i:Nat // I i},fun i=>{vs:=[(0,.v (sP b1)),(4,.box 0 (eTy (.app a1 a2))),(5,.box 0 (eTy (.app c1 c2))),(59,sv 2),(60,sv (i.1:Nat))],hp:=stH b1 b2 k (L i.1)},fun i=>2-i.1,⟨0,hI0⟩,⟨⟨rfl,rfl,rfl,rfl,rfl,trivial⟩,trivial,by simp only;rw[hL0];rfl⟩,?_⟩;rintro⟨i,hi⟩;refine⟨fun hlt=>?_,fun hge=>?_⟩
   ·have hlt:i<2:=by have hlt:=of_decide_eq_true hlt;simp only at hlt;omega
    obtain⟨x,hx⟩:∃x,[a1,a2][i]? = some x:=⟨_,List.getElem?_eq_getElem (by simpa using hlt)⟩
    obtain⟨y,hy⟩:∃y,[c1,c2][i]? = some y:=⟨_,List.getElem?_eq_getElem (by simpa using hlt)⟩
    obtain⟨ei,hk,hres⟩:=hst i x y hi hlt hx hy;have hk:=hk b1 b2 k;have hg1:(zN [a1,a2])[i]? = some (eTy x):=by unfold zN;rw[List.getElem?_map,hx];rfl
    have hg2:(zN [c1,c2])[i]? = some (eTy y):=by unfold zN;rw[List.getElem?_map,hy];rfl
    refine⟨_,by omega,hg1,rfl,?_⟩;refine⟨_,by omega,hg2,rfl,?_⟩;refine .inr (.inr (.inr ⟨[0,1],stH b1 b2 k (L i),stH b1 b2 k (L (i+1)),_,rfl,by decide,rfl,hk,?_⟩));refine⟨by kernel_rfl,?_⟩;rcases hres with⟨rfl,hI⟩|⟨hne,rfl,hLl⟩
    ·refine⟨fun hbs=>?_,fun hbs=>?_⟩<;>first|(exfalso;revert hbs;(simp);done)|skip
     exact⟨⟨i+1,hI⟩,by simp;omega,⟨rfl,rfl,rfl,rfl,svc (wrap_succ (k:=i) (by omega)),trivial⟩,trivial,rfl⟩
    ·refine⟨fun hbs=>?_,fun hbs=>?_⟩<;>first|(exfalso;revert hbs;(simp[hne]);done)|skip
     rw[<-hLl];exact⟨rfl,rfl,rfl⟩
   ·have hge:i=2:=by have hge:=of_decide_eq_false hge;have:=hI2 i hi;simp only at hge;omega
    subst hge;obtain⟨rfl,hLl⟩:=hfin hi;rw[<-hLl];exact⟨rfl,rfl,rfl⟩
  by_cases he:e1=0
  ·subst he;obtain⟨e2,l2,s2,k2⟩:=r1 rfl;refine⟨e2,l2,OneS.of_look hu hv (zXG s1 s2),?_⟩;refine start e2 l2 (fun i=>match i with|0=>l|1=>l1|_=>l2) (fun i=>i<=1∨(e2=0/\i=2)) rfl (.inl (by omega)) (fun i hi=>by omega) (fun i x y hi hlt hx hy=>?_) (fun h2=>⟨by omega,rfl⟩)
   match i,hlt with
   | 0,_ =>
    simp at hx hy;subst hx;subst hy;exact⟨0,k1,.inl ⟨rfl,.inl (by omega)⟩⟩
   | 1,_ =>
    simp at hx hy;subst hx;subst hy;refine⟨e2,k2,?_⟩;by_cases h2:e2=0
    ·exact .inl ⟨h2,.inr ⟨h2,rfl⟩⟩
    ·exact .inr ⟨h2,rfl,rfl⟩
  ·refine⟨e1,l1,OneS.of_look hu hv (zXK s1 he),?_⟩;refine start e1 l1 (fun i=>match i with|0=>l|_=>l1) (fun i=>i=0) rfl rfl (fun i hi=>by omega) (fun i x y hi hlt hx hy=>?_) (fun h2=>by omega);subst hi;simp at hx hy;subst hx;subst hy;exact⟨e1,k1,.inr ⟨he,rfl,rfl⟩⟩
theorem zXF (U:List Int):∀(c s:Nat) (l:Kn) (a b:Tp),cnt U l<=c->tsz (fl l a)<=s->Ok l->FlatK l->flat a->flat b->zF6 U l->(∀m∈mvs a,m∈U)->(∀m∈mvs b,m∈U)->∃e l',OneS l a b e l'/\zHR l a b e l':=by
 intro c;induction c using Nat.strongRecOn with
 | _ c ihc =>
  intro s;induction s using Nat.strongRecOn with
  | _ s ihs =>
   intro l a b hc hs h hfl ha hb hU hUa hUb;refine one_step h hfl ha hb (fun u v hu hv a1 a2 b1 b2 eu ev=>?_);subst eu;subst ev;have huf:flat (.app a1 a2):=hu.keep flat ha hfl;have hvf:flat (.app b1 b2):=hv.keep flat hb hfl;have huU:=hu.keep (fun t => ∀m∈mvs t,m∈U) hUa (fun q hq=>(hU q hq).2);have hvU:=hv.keep (fun t => ∀m∈mvs t,m∈U) hUb (fun q hq=>(hU q hq).2);have hsz:tsz (fl l a)=tsz (fl l a1)+tsz (fl l a2):=by rw[<-hu.same,zFD];rfl
   have p1:=zCE (fl l a1);have p2:=zCE (fl l a2);obtain⟨e1,l1,s1,k1⟩:=ihs (tsz (fl l a1)) (by omega) l a1 b1 hc (Nat.le_refl _) h hfl huf.1 hvf.1 hU (fun m hm=>huU m (by simp[mvs,hm])) (fun m hm=>hvU m (by simp[mvs,hm]));refine⟨e1,l1,s1,k1,fun _=>?_⟩;have hU1:=s1.cl U hU (fun m hm=>huU m (by simp[mvs,hm])) (fun m hm=>hvU m (by simp[mvs,hm]));have r2:∀m∈mvs a2,m∈U:=fun m hm=>huU m (by simp[mvs,hm]);have r3:∀m∈mvs b2,m∈U:=fun m hm=>hvU m (by simp[mvs,hm]);obtain⟨sx,hsx⟩:=s1.pre;by_cases he:sx=[]
   ·have:l1=l:=by rw[hsx,he,List.append_nil]
    subst this;exact ihs (tsz (fl l1 a2)) (by omega) l1 a2 b2 hc (Nat.le_refl _) h hfl huf.2 hvf.2 hU r2 r3
   ·have hok:=s1.ok;rw[hsx] at hok hU1;have hlt:=cnt_lt he hok hU1;rw[<-hsx] at hlt hU1;exact ihc (cnt U l1) (by omega) (tsz (fl l1 a2)) l1 a2 b2 (Nat.le_refl _) (Nat.le_refl _) s1.ok s1.flat huf.2 hvf.2 hU1 r2 r3
theorem zW5 {l:Kn} (h:Ok l) (hfl:FlatK l) {a b:Tp} (ha:flat a) (hb:flat b):∃e l',OneS l a b e l'/\zHR l a b e l':=by
 refine zXF (dom l++(l.flatMap fun q=>mvs q.2)++mvs a++mvs b) _ _ l a b (Nat.le_refl _) (Nat.le_refl _) h hfl ha hb (fun q hq=>⟨?_,fun m hm=>?_⟩) (fun m hm=>by simp[hm]) (fun m hm=>by simp[hm])
 ·simp only[List.mem_append];exact .inl (.inl (.inl (List.mem_map.2 ⟨q,hq,rfl⟩)))
 ·simp only[List.mem_append];exact .inl (.inl (.inr (List.mem_flatMap.2 ⟨q,hq,hm⟩)))
end Go.Proofs.YtebmimnglcdogaaGreatDoor.Ck
