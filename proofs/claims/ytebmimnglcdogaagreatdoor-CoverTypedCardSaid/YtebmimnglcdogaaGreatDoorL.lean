/- Unify, New, Fresh. No condition but that what is known came to be known one by one, and has no type for all. -/
import Derived.Test.YtebmimnglcdogaaGreatDoorK
set_option linter.unusedSimpArgs false
set_option linter.unusedVariables false
namespace Go.Proofs.YtebmimnglcdogaaGreatDoor.Ck
open Go Fp
set_option maxRecDepth 10000
set_option maxHeartbeats 16000000
set_option linter.unusedVariables false
set_option linter.unusedSimpArgs false
theorem zNF (b2:Nat) (L:List (AV×AV)):CallsG Tryz.prog (fnv 115) [(b2,HO.mp L)] [.lit (.map (some b2))] [] fun r o h=>o=0/\∃b3,r = .lit (.map (some b3))/\h=[(b2,HO.mp L),(b3,HO.mp L)]:=by
 refine⟨115,#[],#[],rfl,⟨Tryz.f115,Tryz.func115,rfl,rfl⟩,fun F w vs hfr hh ha hy=>?_⟩;obtain⟨es,clock,k1,k2,k3⟩:=hh.ok (b2,HO.mp L) (by simp);simp only at k1;have hl:=ha.len
 match vs,hl with
 | [v],_ =>
  have hv:=(ha.rep 0 v _ rfl rfl).lit_eq.1;subst hv;have hyk:yA [Value.map (some b2)] []=[]:=rfl;rw[hyk];refine (zLN b2 es clock w k1).mono fun e w' hpo=>?_;obtain⟨rfl,rfl⟩:=hpo;have hgr:=Grow.alloc w (.map es clock);have hnew:(w.alloc (.map es clock)).heap[w.heap.size]? = some (.map es clock):=World.heap_alloc_new w _;have hlt:∀b,b<w.heap.size->b≠w.heap.size:=fun b hb he=>by omega
  have kp:Keeps F w (fun b=>if b=w.heap.size then some 0 else F b) (w.alloc (.map es clock)):=hgr.keeps (fun b hb=>by simp[hlt b hb]);have hb2:=zM k1;have rp:wM (fun b=>if b=w.heap.size then some 0 else F b) (w.alloc (.map es clock)) es.toList L:=⟨k3.1,fun j e p he hp=>⟨(k3.2 j e p he hp).1.mono kp,(k3.2 j e p he hp).2.mono kp⟩⟩
  refine⟨_,_,0,_,fun b=>if b=w.heap.size then some 0 else F b,rfl,⟨rfl,w.heap.size,rfl,rfl⟩,Rep.lit _ rfl,fun sz h=>by omega,?_,fun b hb => .inl (by simp[hlt b hb]),fun b hb=>?_,⟨?_,fun b hb=>?_,fun x hx=>?_⟩,fun b hb=>?_⟩
  ·exact⟨hgr.os,hgr.tape,hgr.output,hgr.size,fun b hb => .inr (.inr (hgr.block b hb))⟩
  ·have hsz:(w.alloc (.map es clock)).heap.size=w.heap.size+1:=by simp
   have:b≠w.heap.size:=fun e=>by omega
   simp only[this,if_false];exact hfr b (by omega)
  ·simp[keys];omega
  ·simp[keys] at hb;rcases hb with rfl|rfl
   ·simp only[hlt _ hb2,if_false];exact hh.shut _ (by simp[keys])
   ·simp
  ·simp at hx;rcases hx with rfl|rfl
   ·exact⟨es,clock,(hgr.block b2 hb2).trans k1,k2,rp⟩
   ·exact⟨es,clock,hnew,k2,rp⟩
  ·simp[keys] at hb;rcases hb with rfl|rfl
   ·exact .inl (by simp[keys])
   ·exact .inr (Nat.le_refl _)
theorem unify_ok {l:Kn} (h:Ok l) (hfl:FlatK l) {a b:Tp} (ha:flat a) (hb:flat b):∃e l',OneS l a b e l'/\(∀b1 b2 k,CallsG Tryz.prog (fnv xM) (stH b1 b2 k l) [sP b1,eTy a,eTy b] [] fun r o hp=>r = .lit (.int .i64 e)/\o=0/\∃b3,hp=stH b1 b3 k (if e=0 then l' else l)) /\
  (e=0->∀b1 b2 k,CallsG Tryz.prog (fnv xM) (stH b1 b2 k l) [sP b1,eTy a,eTy b] [] fun r o hp=>r = .lit (.int .i64 0)/\o=0/\hp=stH b1 b2 k l'):=by
 obtain⟨e,l',hS,hO⟩:=zW5 h hfl ha hb;refine⟨e,l',hS,fun b1 b2 k=>?_,fun he b1 b2 k=>?_⟩
 rotate_left
 ·subst he;have hO:=hO b1 b2 k;have hC:=zNF b2 (eKn l);refine CallsG.lessS (post:=fun r o hp=>r = .lit (.int .i64 0)/\∃b3,hp=stH b1 b2 k l'++[(b3,HO.mp (eKn l))]) ?_ (fun r o hp hpo=>?_)
  rotate_left
  ·obtain⟨h1,b3,rfl⟩:=hpo;exact⟨stH b1 b2 k l',List.sublist_append_left _ _,h1,rfl,rfl⟩
  refine zJ (first:=[]) (cap:=[]) ttok mixed Tryz.func93 rfl (by rfl) rfl (Nat.le_of_ble_eq_true rfl) (by kernel_rfl) ?_;refine⟨0,_,_,rfl,rfl,?_⟩;refine .inr (.inr (.inr (.inr (.inr (.inl ⟨[1],[(b2,HO.mp (eKn l))],[],_,rfl,by decide,rfl,hC,?_⟩)))));rintro r' w hp ⟨rfl,b3,rfl,rfl⟩;refine .inr (.inr (.inr (.inl ⟨[0,1],stH b1 b2 k l,stH b1 b2 k l',_,rfl,by decide,rfl,hO,?_⟩)));refine⟨fun hbs=>?_,fun hbs=>?_⟩<;>first|(exfalso;revert hbs;(simp);done)|skip
  exact⟨rfl,b3,rfl⟩
 have hO:=hO b1 b2 k;have hC:=zNF b2 (eKn l);refine CallsG.lessS (post:=fun r o hp=>r = .lit (.int .i64 e)/\∃b3,(e=0/\hp=stH b1 b2 k l'++[(b3,HO.mp (eKn l))])∨(e≠0/\hp=[(b1,HO.cells [.lit (.int .i64 k),.lit (.map (some b3))]),(b2,HO.mp (eKn l')),(b3,HO.mp (eKn l))])) ?_ (fun r o hp hpo=>?_)
 rotate_left
 ·obtain⟨h1,b3,⟨h2,rfl⟩|⟨h2,rfl⟩⟩:=hpo
  ·exact⟨stH b1 b2 k l',List.sublist_append_left _ _,h1,rfl,b2,by rw[if_pos h2]⟩
  ·exact⟨stH b1 b3 k l,(List.sublist_cons_self _ _).cons_cons _,h1,rfl,b3,by rw[if_neg h2]⟩
 refine zJ (first:=[]) (cap:=[]) ttok mixed Tryz.func93 rfl (by rfl) rfl (Nat.le_of_ble_eq_true rfl) (by kernel_rfl) ?_;refine⟨0,_,_,rfl,rfl,?_⟩;refine .inr (.inr (.inr (.inr (.inr (.inl ⟨[1],[(b2,HO.mp (eKn l))],[],_,rfl,by decide,rfl,hC,?_⟩)))));rintro r' w hp ⟨rfl,b3,rfl,rfl⟩;refine .inr (.inr (.inr (.inl ⟨[0,1],stH b1 b2 k l,stH b1 b2 k l',_,rfl,by decide,rfl,hO,?_⟩)));by_cases he:e=0
 ·subst he;refine⟨fun hbs=>?_,fun hbs=>?_⟩<;>first|(exfalso;revert hbs;(simp);done)|skip
  exact⟨rfl,b3,.inl ⟨rfl,rfl⟩⟩
 ·refine⟨fun hbs=>?_,fun hbs=>?_⟩<;>first|(exfalso;revert hbs;(simp[he]);done)|skip
  refine⟨rfl,0,_,rfl,Nat.le_of_ble_eq_true rfl,?_⟩;exact⟨rfl,b3,.inr ⟨he,rfl⟩⟩
theorem new_ok:CallsG Tryz.prog (fnv zM7) [] [] [] fun r o hp=>o=0/\∃b1 b2,r=sP b1/\hp=stH b1 b2 0 []:=by
 refine CallsG.lessM (post:=fun r o hp => ∃b1 b2,r=sP b1/\hp=[(b2,HO.mp (eKn [])),(b1,HO.cells [.lit (.int .i64 0),.lit (.map (some b2))])]) ?_ (fun r o hp hpo=>?_)
 rotate_left
 ·obtain⟨b1,b2,rfl,rfl⟩:=hpo;refine⟨stH b1 b2 0 [],fun x hx=>?_,fun hn=>?_,rfl,b1,b2,rfl,rfl⟩
  ·simp at hx⊢;rcases hx with rfl|rfl<;>simp
  ·simp[keys] at hn⊢;exact fun e=>hn e.symm
 refine zJ (first:=[]) (cap:=[]) ttok mixed Tryz.func11 rfl (by rfl) rfl (Nat.le_of_ble_eq_true rfl) (by kernel_rfl) ?_;intro b2;refine .inr ⟨rfl,fun b1=>?_⟩;exact⟨b1,b2,rfl,rfl⟩
theorem fresh_ok (l:Kn) (b1 b2:Nat) (k:Nat) (hk:k<1000000):CallsG Tryz.prog (fnv zCX) (stH b1 b2 (k:Nat) l) [sP b1] [] fun r o hp=>r=eTy (.mt ((k+1:Nat):Int))/\o=0/\hp=stH b1 b2 ((k+1:Nat):Int) l:=by
 have hM:=zKH ((k+1:Nat):Int);have hw:=wrap_succ (k:=k) (by omega);rw[<-hw] at hM⊢;refine zJ (first:=[]) (cap:=[]) ttok mixed Tryz.func94 rfl (by rfl) rfl (Nat.le_of_ble_eq_true rfl) (by kernel_rfl) ?_;refine⟨0,_,_,rfl,rfl,?_⟩;refine⟨rfl,0,_,rfl,Nat.le_of_ble_eq_true rfl,?_⟩;refine⟨0,_,_,rfl,rfl,?_⟩;refine .inl ⟨_,hM,?_⟩;exact⟨rfl,rfl,rfl⟩
end Go.Proofs.YtebmimnglcdogaaGreatDoor.Ck
