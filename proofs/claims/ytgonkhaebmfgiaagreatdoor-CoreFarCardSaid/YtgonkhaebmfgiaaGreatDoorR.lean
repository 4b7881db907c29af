/- same, whole. No condition but on lengths. -/
import Derived.Test.YtgonkhaebmfgiaaGreatDoorQ
import Derived.Test.YtgonkhaebmfgiaaGreatDoorO
set_option linter.unusedSimpArgs false
set_option linter.unusedVariables false
namespace Go.Proofs.YtgonkhaebmfgiaaGreatDoor
open Go Fp
set_option maxRecDepth 10000
set_option maxHeartbeats 16000000
set_option linter.unusedVariables false
def Cr.V0:Cr->Prop
 | .nil=>True
 | .node f n _ _ g=>(f=1->n=0)/\g.V0
 | .kid p r=>p.V0/\r.V0
 | .bind _ _ p r=>p.V0/\r.V0
 | .alt _ _ _ _ p r=>p.V0/\r.V0
def Cr.TZ:Cr->Prop
 | .nil=>True
 | .node _ _ _ t g=>t.sz<900000/\g.TZ
 | .kid p r=>p.TZ/\r.TZ
 | .bind _ t p r=>t.sz<900000/\p.TZ/\r.TZ
 | .alt _ _ _ _ p r=>p.TZ/\r.TZ
def dpC:Cr->Nat
 | .nil=>0
 | .node f _ _ _ g=>(if f=5∨f=7 then 1 else 0)+g.binds.length+dpC g
 | .kid p r=>max (dpC p) (dpC r)
 | .bind _ _ p r=>max (dpC p) (dpC r)
 | .alt _ _ _ vs p r=>max (vs.length+dpC p) (dpC r)
structure Sa (c:Cr):Prop where
 n:c.isN=true
 ok:c.Ok
 few:c.Few
 sz:c.sz<900000
 v0:c.V0
 tz:c.TZ
theorem parts_all {P Q:Cr->Prop} (hk:∀p r,Q (.kid p r)->P p/\Q r) (hb:∀x t p r,Q (.bind x t p r)->P p/\Q r) (ha:∀f n s vs p r,Q (.alt f n s vs p r)->P p/\Q r) (hn:∀f n s t g,Q (.node f n s t g)->Q g) (c:Cr):Q c->(∀p∈c.kids,P p)/\(∀b∈c.binds,P b.2.2)/\∀a∈c.alts,P a.2.2:=by
 induction c with
 | nil=>intro _;exact⟨fun _ h=>absurd h List.not_mem_nil,fun _ h=>absurd h List.not_mem_nil,fun _ h=>absurd h List.not_mem_nil⟩
 | node f n s t g ih=>intro h;exact ih (hn _ _ _ _ _ h)
 | kid p r _ ih =>
  intro h;obtain⟨h1,h2⟩:=hk _ _ h;obtain⟨i1,i2,i3⟩:=ih h2;exact⟨fun q hq=>(List.mem_cons.1 hq).elim (fun e=>e ▸ h1) (i1 q),i2,i3⟩
 | bind x t p r _ ih =>
  intro h;obtain⟨h1,h2⟩:=hb _ _ _ _ h;obtain⟨i1,i2,i3⟩:=ih h2;exact⟨i1,fun q hq=>(List.mem_cons.1 hq).elim (fun e=>e ▸ h1) (i2 q),i3⟩
 | alt f n s vs p r _ ih =>
  intro h;obtain⟨h1,h2⟩:=ha _ _ _ _ _ _ h;obtain⟨i1,i2,i3⟩:=ih h2;exact⟨i1,i2,fun q hq=>(List.mem_cons.1 hq).elim (fun e=>e ▸ h1) (i3 q)⟩
theorem zYK (c:Cr) (h:c.V0):(∀p∈c.kids,p.V0)/\(∀b∈c.binds,b.2.2.V0)/\∀a∈c.alts,a.2.2.V0 :=
 parts_all (P:=Cr.V0) (Q:=Cr.V0) (fun _ _ h=>h) (fun _ _ _ _ h=>h) (fun _ _ _ _ _ _ h=>h) (fun _ _ _ _ _ h=>h.2) c h
theorem zZS (c:Cr) (h:c.TZ):(∀p∈c.kids,p.TZ)/\(∀b∈c.binds,b.2.2.TZ)/\∀a∈c.alts,a.2.2.TZ :=
 parts_all (P:=Cr.TZ) (Q:=Cr.TZ) (fun _ _ h=>h) (fun _ _ _ _ h=>h.2) (fun _ _ _ _ _ _ h=>h) (fun _ _ _ _ _ h=>h.2) c h
theorem zY4 (c:Cr):c.TZ->∀b∈c.binds,b.2.1.sz<900000:=by
 induction c with
 | nil=>exact fun _ _ h=>absurd h List.not_mem_nil
 | node f n s t g ih=>exact fun h=>ih h.2
 | kid p r _ ih=>exact fun h=>ih h.2
 | bind x t p r _ ih=>exact fun h q hq=>(List.mem_cons.1 hq).elim (fun e=>e ▸ h.1) (ih h.2.2 q)
 | alt f n s vs p r _ ih=>exact fun h=>ih h.2
theorem zGF (c:Cr):(∀p∈c.kids,dpC p<=dpC c)/\(∀b∈c.binds,dpC b.2.2<=dpC c)/\∀a∈c.alts,a.2.1.length+dpC a.2.2<=dpC c:=by
 induction c with
 | nil=>exact⟨fun _ h=>absurd h List.not_mem_nil,fun _ h=>absurd h List.not_mem_nil,fun _ h=>absurd h List.not_mem_nil⟩
 | node f n s t g ih =>
  obtain⟨i1,i2,i3⟩:=ih;exact⟨fun p hp=>Nat.le_trans (i1 p hp) (Nat.le_add_left _ _),fun p hp=>Nat.le_trans (i2 p hp) (Nat.le_add_left _ _),fun p hp=>Nat.le_trans (i3 p hp) (Nat.le_add_left _ _)⟩
 | kid p r _ ih =>
  obtain⟨i1,i2,i3⟩:=ih;exact⟨fun q hq=>(List.mem_cons.1 hq).elim (fun e=>e ▸ Nat.le_max_left _ _) (fun h=>Nat.le_trans (i1 q h) (Nat.le_max_right _ _)),fun q hq=>Nat.le_trans (i2 q hq) (Nat.le_max_right _ _),fun q hq=>Nat.le_trans (i3 q hq) (Nat.le_max_right _ _)⟩
 | bind x t p r _ ih =>
  obtain⟨i1,i2,i3⟩:=ih;exact⟨fun q hq=>Nat.le_trans (i1 q hq) (Nat.le_max_right _ _),fun q hq=>(List.mem_cons.1 hq).elim (fun e=>e ▸ Nat.le_max_left _ _) (fun h=>Nat.le_trans (i2 q h) (Nat.le_max_right _ _)),fun q hq=>Nat.le_trans (i3 q hq) (Nat.le_max_right _ _)⟩
 | alt f n s vs p r _ ih =>
  obtain⟨i1,i2,i3⟩:=ih;exact⟨fun q hq=>Nat.le_trans (i1 q hq) (Nat.le_max_right _ _),fun q hq=>Nat.le_trans (i2 q hq) (Nat.le_max_right _ _),fun q hq=>(List.mem_cons.1 hq).elim (fun e=>e ▸ Nat.le_max_left _ _) (fun h=>Nat.le_trans (i3 q h) (Nat.le_max_right _ _))⟩
theorem zJW {c:Cr} (hn:c.isN=true):(∀p∈c.kids,(dIn c []).length+c.names0.length+dpC p<=dpC c)/\(∀b∈c.binds,(dIn c []).length+c.names0.length+dpC b.2.2<=dpC c)/\(dIn c []).length+c.names0.length<=dpC c:=by
 cases c with
 | node f n s t g =>
  obtain⟨i1,i2,_⟩:=zGF g;have h0:(dIn (.node f n s t g) []).length+(Cr.node f n s t g).names0.length<=(if f=5∨f=7 then 1 else 0)+g.binds.length:=by
   have e1:(dIn (.node f n s t g) []).length=if f=7 then 1 else 0:=by
    unfold dIn;show (if f=7 then [s] else []).length=_;split<;>rfl
   have e2:(Cr.node f n s t g).names0.length=(if f=5 then 1 else 0)+g.binds.length:=by
    unfold Cr.names0;rw[List.length_append,List.length_map]
    congr 1
    show (if f=5 then [s] else []).length=_;split<;>rfl
   rw[e1,e2];by_cases h5:f=5
   ·subst h5;simp
   ·by_cases h7:f=7
    ·subst h7;simp
    ·simp[h5,h7]
  refine⟨fun p hp=>?_,fun p hp=>?_,?_⟩
  ·have:=i1 p hp;simp only[dpC];omega
  ·have:=i2 p hp;simp only[dpC];omega
  ·simp only[dpC];omega
 | _=>cases hn
theorem Sa.group {c:Cr} (h:Sa c):∀(i:Nat) g,(gD c)[i]? = some g->(dIn c []).length+g.1.length<=dpC c+(dIn c []).length/\∀p∈g.2.2,Sa p/\p.sz<c.sz/\(dIn c []).length+g.1.length+dpC p<=dpC c:=by
 intro i g hg;obtain⟨v1,v2,v3⟩:=zYK c h.v0;obtain⟨z1,z2,z3⟩:=zZS c h.tz;obtain⟨n1,n2,n3⟩:=zJW h.n;obtain⟨_,_,p3⟩:=zGF c;have hs:=h.sz;cases i with
 | zero =>
  have hg:some (c.names0,gNm c,c.parts0)=some g:=hg;injection hg with hg
  subst hg;refine⟨by simp only;omega,fun p hp=>?_⟩;rcases List.mem_append.1 hp with hp|hp
  ·have h1:=zH9 hp;rw[h.n] at h1;simp at h1;exact⟨⟨(h.ok.kid hp).1,(h.ok.kid hp).2,h.few.kid hp,by omega,v1 p hp,z1 p hp⟩,by omega,n1 p hp⟩
  ·obtain⟨b,hb,rfl⟩:=List.mem_map.1 hp;have h1:=zET hb;rw[h.n] at h1;simp at h1;exact⟨⟨(h.ok.bind hb).1,(h.ok.bind hb).2,h.few.bind hb,by omega,v2 b hb,z2 b hb⟩,by omega,n2 b hb⟩
 | succ i =>
  have hg:(c.alts.map fun x=>(x.2.1,x.2.1.map nmV,[x.2.2]))[i]? = some g:=hg;rw[List.getElem?_map] at hg;cases hx:c.alts[i]? with
  | none=>rw[hx] at hg;cases hg
  | some a =>
   rw[hx] at hg;simp only[Option.map_some,Option.some.injEq] at hg;subst hg;have hm:=List.mem_of_getElem? hx;have hp3:=p3 a hm;have h7:(dIn c []).length=0:=by
    cases c with
    | node f n s t g =>
     have hf:f=9:=h.ok.2.2.2.2.2.1 (fun h0=>by rw[show (Cr.node f n s t g).alts=g.alts from rfl,h0] at hx;cases hx);subst hf;rfl
    | _=>cases h.n
   have h1:=zIP hm;rw[h.n] at h1;simp at h1;refine⟨by simp only;omega,fun p hp=>?_⟩;rw[List.mem_singleton.1 hp];exact⟨⟨(h.ok.alt hm).1,(h.ok.alt hm).2.1,(h.few.alt hm).1,by omega,v3 a hm,z3 a hm⟩,by omega,by simp only;omega⟩
theorem zNP {c:Cr} (h:Sa c) (h1:c.f=1):c.n=0/\c.kids=[]/\c.binds=[]/\c.alts=[]:=by
 have hn:=h.n;cases c with
 | node f n s t g =>
  obtain⟨_,h2⟩:=h.ok.2.1 h1;subst h2;exact⟨h.v0.1 h1,rfl,rfl,rfl⟩
 | _=>cases hn
theorem z2D {a b:Cr} (ha:Sa a) (hb:Sa b) {e d e' d':List ByteArray} (h:dbc a e d=dbc b e' d'):a.f=b.f/\a.n=b.n/\a.kids.length=b.kids.length/\a.binds.length=b.binds.length/\a.alts.length=b.alts.length:=by
 by_cases h1:a.f=1
 ·have h2:=(zVO ha.n ha.ok hb.n hb.ok h).1 h1;obtain⟨q1,q2,q3,q4⟩:=zNP ha h1;obtain⟨r1,r2,r3,r4⟩:=zNP hb h2;rw[q1,q2,q3,q4,r1,r2,r3,r4,h1,h2];exact⟨rfl,rfl,rfl,rfl,rfl⟩
 ·have hf:=zQT ha.n ha.ok hb.n hb.ok h1 h;exact⟨hf.f,hf.n,hf.kl⟩
theorem zVK (c:Cr) (d:List ByteArray):(dIn c d).length=d.length+(dIn c []).length:=by
 unfold dIn;split<;>simp
theorem z2F {a b:Cr} (ha:a.isN=true) (hb:b.isN=true) (h:a.f=b.f):a.own.length=b.own.length:=by
 cases a with
 | node f n s t g=>cases b with
  | node f' n' s' t' g' =>
   have h:f=f':=h;subst h;show (if f=5 then [s] else []).length=(if f=5 then [s'] else []).length;split<;>rfl
  | _=>cases hb
 | _=>cases ha
theorem zXM (N:Nat):∀(a b0:Cr) (e d e' d':List ByteArray),a.sz<=N->Sa a->Sa b0->e.length=e'.length->d.length=d'.length->e.length+dpC a<=9000->d.length+dpC a<=9000->zF Tryz.prog 85 [eC a,eC b0,eG e d,eG e' d'] (.sb (decide (dbc a e d=dbc b0 e' d'))):=by
 induction N with
 | zero=>intro a b0 e d e' d' hs ha;have:=wL ha.n;omega
 | succ N ih =>
  intro a b0 e d e' d' hs ha hb hel hdl he hd;have hhd:=fun h:dbc a e d=dbc b0 e' d'=>z2D ha hb h;have hgA:=ha.group;have hgB:=hb.group;have hvar:=zZQ hel a.s b0.s;have hfw:=fun (h1:a.f≠1) (h:dbc a e d=dbc b0 e' d')=>zQT ha.n ha.ok hb.n hb.ok h1 h;have hbw:=fun (h1:a.f≠1)=>zY5 ha.n ha.ok hb.n hb.ok h1 (e:=e) (d:=d) (e':=e') (d':=d');have hv1:=fun (h1:a.f=1) (h2:b0.f=1)=>(show decide (dbc a e d=dbc b0 e' d')=decide ((if memb a.s e then DC.bv (ixN e a.s) else .fr a.s)=(if memb b0.s e' then DC.bv (ixN e' b0.s) else .fr b0.s)) by rw[zPC ha.n ha.ok h1,zPC hb.n hb.ok h2])
  obtain⟨r,hr⟩:∃r,r=decide (dbc a e d=dbc b0 e' d'):=⟨_,rfl⟩
  rw[<-hr];have hrF:¬dbc a e d=dbc b0 e' d'->r=false:=fun h=>by rw[hr,decide_eq_false h]
  have hrT:dbc a e d=dbc b0 e' d'->r=true:=fun h=>by rw[hr,decide_eq_true h]
  have hlA:=wK a ha.ok;have hlB:=wK b0 hb.ok;have hsa:=ha.sz;have hsb:=hb.sz;refine zAA ttok mixed Tryz.func85 rfl (by rfl) (Nat.le_of_ble_eq_true rfl) (by kernel_rfl) ?_;refine Wsem.seq ttok mixed ?_;refine Wsem.cut {vs:=[(4,.box 0 (eC a)),(5,.box 0 (eC b0)),(6,.box 0 (eG e d)),(7,.box 0 (eG e' d'))]} ⟨⟨rfl,rfl,rfl,rfl,trivial⟩,trivial,rfl⟩ ?_;refine Wsem.shut 4 rfl ?_;refine Wsem.cut {vs:=[(4,.v (.ptr (eC a).cells)),(5,.box 0 (eC b0)),(6,.box 0 (eG e d)),(7,.box 0 (eG e' d'))]} ⟨⟨rfl,rfl,rfl,rfl,trivial⟩,trivial,rfl⟩ ?_;refine Wsem.shut 5 rfl ?_;refine Wsem.cut {vs:=[(4,.v (.ptr (eC a).cells)),(5,.v (.ptr (eC b0).cells)),(6,.box 0 (eG e d)),(7,.box 0 (eG e' d'))]} ⟨⟨rfl,rfl,rfl,rfl,trivial⟩,trivial,rfl⟩ ?_;refine Wsem.seq ttok mixed ?_;refine⟨fun m=>?_,fun m=>?_⟩
  rotate_left
  ·have hx:=hrF fun h=>by simp[(hhd h).1] at m
   rw[hx];exact rfl
  have hf:a.f=b0.f:=by simpa using m
  refine⟨fun m=>?_,fun m=>?_⟩
  rotate_left
  ·have hx:=hrF fun h=>by simp[(hhd h).2.1] at m
   rw[hx];exact rfl
  have hn:a.n=b0.n:=by simpa using m
  have l0:(a.e3 0).length=a.kids.length:=by rw[zXB];simp[eCs]
  have l0':(b0.e3 0).length=b0.kids.length:=by rw[zXB];simp[eCs]
  have l1:(a.e3 1).length=a.binds.length:=by rw[zMN];simp[yS]
  have l1':(b0.e3 1).length=b0.binds.length:=by rw[zMN];simp[yS]
  have l2:(a.e3 2).length=a.alts.length:=by rw[zJD];simp[xE]
  have l2':(b0.e3 2).length=b0.alts.length:=by rw[zJD];simp[xE]
  refine⟨fun m=>?_,fun m=>?_⟩
  rotate_left
  ·have hx:=hrF fun h=>by rw[l0,l0',(hhd h).2.2.1] at m;simp at m
   rw[hx];exact rfl
  have hk:a.kids.length=b0.kids.length:=by rw[l0,l0'] at m;simp at m;omega
  refine⟨fun m=>?_,fun m=>?_⟩
  rotate_left
  ·have hx:=hrF fun h=>by rw[l1,l1',(hhd h).2.2.2.1] at m;simp at m
   rw[hx];exact rfl
  have hbl:a.binds.length=b0.binds.length:=by rw[l1,l1'] at m;simp at m;omega
  refine⟨fun m=>?_,fun m=>?_⟩
  ·have hx:=hrF fun h=>by rw[l2,l2',(hhd h).2.2.2.2] at m;simp at m
   rw[hx];exact rfl
  have hal:a.alts.length=b0.alts.length:=by rw[l2,l2'] at m;simp at m;omega
  refine Wsem.cut {vs:=[(4,.v (.ptr (eC a).cells)),(5,.v (.ptr (eC b0).cells)),(6,.box 0 (eG e d)),(7,.box 0 (eG e' d'))]} ⟨⟨rfl,rfl,rfl,rfl,trivial⟩,trivial,rfl⟩ ?_;have hon:=z2F ha.n hb.n hf;have hdA:=zVK a d;have hdB:=zVK b0 d';have hd0:(dIn a []).length=(dIn b0 []).length:=by unfold dIn;rw[hf];split<;>rfl
  have hdp:=(zJW ha.n).2.2;have hTz:a.t.sz<900000:=by
   have h1:=ha.n;have h2:=ha.tz;cases a with
   | node f n s t g=>exact h2.1
   | _=>cases h1
  have hTb:=zY4 a ha.tz;have hrec:∀(i j:Nat) g g' p p',(gD a)[i]? = some g->(gD b0)[i]? = some g'->g.1.length=g'.1.length->g.2.2[j]? = some p->g'.2.2[j]? = some p'->zF Tryz.prog 85 [eC p,eC p',eG (g.1.reverse++e) (dIn a d),eG (g'.1.reverse++e') (dIn b0 d')] (.sb (decide (dbc p (g.1.reverse++e) (dIn a d)=dbc p' (g'.1.reverse++e') (dIn b0 d')))):=by
   intro i j g g' p p' h1 h2 h3 h4 h5;obtain⟨_,x1⟩:=hgA i g h1;obtain⟨_,y1⟩:=hgB i g' h2;obtain⟨x2,x3,x4⟩:=x1 p (List.mem_of_getElem? h4);obtain⟨y2,y3,y4⟩:=y1 p' (List.mem_of_getElem? h5);exact ih p p' _ _ _ _ (by omega) x2 y2 (by simp only[List.length_append,List.length_reverse];omega) (by omega) (by simp only[List.length_append,List.length_reverse];omega) (by omega)
  have heg:∀g∈gD a,e.length+g.1.length<=9000:=fun g hg=>by
   obtain⟨i,hi,hx⟩:=List.getElem_of_mem hg;have:=(hgA i g (by rw[List.getElem?_eq_getElem hi,hx])).1;omega
  by_cases h1:a.f=1
  ·have h1':b0.f=1:=hf.symm.trans h1;rw[hv1 h1 h1',hvar] at hr;refine Wsem.seq ttok mixed ?_;refine .inl ?_;refine Wsem.of ttok mixed ?_;refine⟨fun _=>?_,fun h=>absurd h (by simp[h1])⟩;refine .inl ⟨_,zM7 e d a.s (by omega),?_⟩;refine .inl ⟨_,zM7 e' d' b0.s (by omega),?_⟩;refine⟨by kernel_rfl,?_⟩;refine⟨fun m1=>?_,fun m1=>?_⟩
   ·refine⟨fun m2=>?_,fun m2=>?_⟩
    ·rw[hr,m1,m2];exact rfl
    ·rw[hr,m1,m2];exact rfl
   ·rw[hr,m1];exact rfl
  by_cases h7:a.f=7
  ·have h7':b0.f=7:=hf.symm.trans h7;have hDa:dIn a d=a.s::d:=if_pos h7;have hDb:dIn b0 d'=b0.s::d':=if_pos h7';have hab:a.binds=[]:=by
    have h1:=ha.n;have h2:=ha.ok;cases a with
    | node f n s t g =>
     by_cases hb0:g.binds=[]
     ·exact hb0
     ·have:=h2.2.2.2.2.1 hb0;have h7:f=7:=h7;omega
    | _=>cases h1
   refine Wsem.letout 6 rfl rfl fun b=>?_;refine Wsem.letout 7 rfl rfl fun b'=>?_;refine Wsem.cut {vs:=[(4,.v (.ptr (eC a).cells)),(5,.v (.ptr (eC b0).cells)),(6,.v (pt b 0)),(7,.v (pt b' 0))],hp:=[(b,HO.cells (eG e d).cells),(b',HO.cells (eG e' d').cells)]} ⟨⟨rfl,rfl,rfl,rfl,trivial⟩,trivial,rfl⟩ ?_;refine Wsem.seq ttok mixed ?_;refine .inl ?_;refine Wsem.cut {vs:=[(4,.v (.ptr (eC a).cells)),(5,.v (.ptr (eC b0).cells)),(6,.v (pt b 0)),(7,.v (pt b' 0)),(9,.v (.fn (.func 125) [] [pt b 0,pt b' 0]))],hp:=[(b,HO.cells (eG e d).cells),(b',HO.cells (eG e' d').cells)]} ⟨⟨rfl,rfl,rfl,rfl,rfl,trivial⟩,trivial,rfl⟩ ?_;refine Wsem.seq ttok mixed ?_;refine⟨fun h=>absurd h (by simp[h7]),fun _=>?_⟩;refine⟨fun h=>absurd h (by simp[h7]),fun _=>?_⟩;refine⟨fun _=>?_,fun h=>absurd h (by simp[h7])⟩;have hw:=zCU e d [a.s] [] [] ⟨rfl,fun i a s h=>by cases h⟩ (zZ4 1) (by omega) (by simp) (by simp;omega);have hw':=zCU e' d' [b0.s] [] [] ⟨rfl,fun i a s h=>by cases h⟩ (zZ4 1) (by omega) (by simp) (by simp;omega);refine⟨0,_,rfl,Nat.le_refl 2,?_⟩;refine .inl ⟨_,hw,?_⟩;refine⟨1,_,rfl,Nat.le_refl 2,?_⟩;refine .inl ⟨_,hw',?_⟩;refine⟨rfl,0,_,rfl,Nat.le_refl 2,?_⟩;refine⟨rfl,1,_,rfl,Nat.le_refl 2,?_⟩;refine⟨by kernel_rfl,?_⟩;refine Wsem.cut _ ?_ (z6X (a:=a) (b0:=b0) (e:=e) (D:=dIn a d) (e':=e') (D':=dIn b0 d') (b:=b) (b':=b') (r:=r) ha.n ha.ok ha.few ha.sz hb.n hb.ok hb.few hb.sz hk hbl hal hon hTz hTb hab (by omega) (by omega) hel heg hrec
    (fun q1 q2 q3 q4=>hrT (hbw h1 hf hn (fun h5 h7'=>absurd h7 h7') q1 hk hbl hal q2 q3 q4))
    (fun q=>hrF fun h=>q (hfw h1 h).t) (fun i hi hi' q=>hrF fun h=>q ((hfw h1 h).bt hi hi')) (fun i hi hi' q=>hrF fun h=>q ((hfw h1 h).ah hi hi')) (fun i j q=>hrF fun h=>q ((hfw h1 h).part ha.n ha.ok hb.n hb.ok i j)))
   rw[hDa,hDb];exact⟨⟨rfl,rfl,rfl,rfl,rfl,trivial⟩,trivial,rfl⟩
  have hDa:dIn a d=d:=if_neg h7;have hDb:dIn b0 d'=d':=if_neg (by rw[<-hf];exact h7);refine Wsem.seq ttok mixed ?_;refine .inl ?_;refine Wsem.cut {vs:=[(4,.v (.ptr (eC a).cells)),(5,.v (.ptr (eC b0).cells)),(6,.v (.ptr (eG e d).cells)),(7,.v (.ptr (eG e' d').cells)),(9,.v (.fn (.func 125) [] [.ptr (eG e d).cells,.ptr (eG e' d').cells]))]} ⟨⟨rfl,rfl,rfl,rfl,rfl,trivial⟩,trivial,rfl⟩ ?_;have fin:(¬a.f=5->¬a.f=7->a.s=b0.s)->Wsem Tryz.prog (sn4 (bodyC Tryz.f85)) (mkC {vs:=[(4,.v (.ptr (eC a).cells)),(5,.v (.ptr (eC b0).cells)),(6,.v (.ptr (eG e d).cells)),(7,.v (.ptr (eG e' d').cells)),(9,.v (.fn (.func 125) [] [.ptr (eG e d).cells,.ptr (eG e' d').cells]))]})
    (fun c2=>zFM tt Tryz.f85.results.toList (.sb r) (den c2)) (fun _ _=>False) (fun c2=>zFM tt Tryz.f85.results.toList (.sb r) (den c2)):=by
   intro hs5;have hX:=z6V (a:=a) (b0:=b0) (e:=e) (D:=dIn a d) (e':=e') (D':=dIn b0 d') (r:=r) ha.n ha.ok ha.few ha.sz hb.n hb.ok hb.few hb.sz hk hbl hal hon hTz hTb (by omega) (by omega) hel heg hrec
    (fun q1 q2 q3 q4=>hrT (hbw h1 hf hn hs5 q1 hk hbl hal q2 q3 q4))
    (fun q=>hrF fun h=>q (hfw h1 h).t) (fun i hi hi' q=>hrF fun h=>q ((hfw h1 h).bt hi hi')) (fun i hi hi' q=>hrF fun h=>q ((hfw h1 h).ah hi hi')) (fun i j q=>hrF fun h=>q ((hfw h1 h).part ha.n ha.ok hb.n hb.ok i j))
   rw[hDa,hDb] at hX;exact hX
  refine Wsem.seq ttok mixed ?_;refine⟨fun h=>absurd h (by simp[h1]),fun _=>?_⟩;by_cases h5:a.f=5
  ·refine⟨fun _=>?_,fun h=>absurd h (by simp[h5])⟩;refine Wsem.cut _ ?_ (fin fun h=>absurd h5 h);exact⟨⟨rfl,rfl,rfl,rfl,rfl,trivial⟩,trivial,rfl⟩
  ·refine⟨fun h=>absurd h (by simp[h5]),fun _=>?_⟩;refine⟨fun h=>absurd h (by simp[h7]),fun _=>?_⟩;refine⟨fun m=>?_,fun m=>?_⟩
   ·have hx:=hrF fun h=>by simp[(hfw h1 h).s h5 h7] at m
    rw[hx];exact rfl
   ·refine Wsem.cut _ ?_ (fin fun _ _=>by simpa using m);exact⟨⟨rfl,rfl,rfl,rfl,rfl,trivial⟩,trivial,rfl⟩
theorem zWC {a b:Cr} (ha:Sa a) (hb:Sa b) (hd:dpC a<=9000):zF Tryz.prog zD7 [eC a,eC b] (.sb (decide (dbc a [] []=dbc b [] []))):=by
 refine zJ ttok mixed Tryz.func37 rfl (by rfl) (Nat.le_of_ble_eq_true rfl) (by kernel_rfl) ?_;refine .inl ⟨_,zXM a.sz a b [] [] [] [] (Nat.le_refl _) ha hb rfl rfl (by simpa using hd) (by simpa using hd),?_⟩;exact rfl
section
variable {φ:Cr->Cr} {τ:Tp->Tp} {ν:ByteArray->ByteArray} {α:List ByteArray->Cr->List ByteArray×Cr}
theorem zC4 (hφ:∀p:Cr,p.V0->(φ p).V0) (hα:∀(vs:List ByteArray) (p:Cr),p.V0->(α vs p).2.V0) (g:Cr):g.V0->(zZ φ τ ν α g).V0:=by
 induction g with
 | nil=>exact fun h=>h
 | node f n s t g _=>exact fun h=>h
 | kid p r _ ih=>exact fun h=>⟨hφ p h.1,ih h.2⟩
 | bind x t p r _ ih=>exact fun h=>⟨hφ p h.1,ih h.2⟩
 | alt f n s vs p r _ ih=>exact fun h=>⟨hα vs p h.1,ih h.2⟩
theorem zDM (hφ:∀p:Cr,p.TZ->(φ p).TZ) (hτ:∀t:Tp,t.sz<900000->(τ t).sz<900000) (hα:∀(vs:List ByteArray) (p:Cr),p.TZ->(α vs p).2.TZ) (g:Cr):g.TZ->(zZ φ τ ν α g).TZ:=by
 induction g with
 | nil=>exact fun h=>h
 | node f n s t g _=>exact fun h=>h
 | kid p r _ ih=>exact fun h=>⟨hφ p h.1,ih h.2⟩
 | bind x t p r _ ih=>exact fun h=>⟨hτ t h.1,hφ p h.2.1,ih h.2.2⟩
 | alt f n s vs p r _ ih=>exact fun h=>⟨hα vs p h.1,ih h.2⟩
theorem zVU (g:Cr):(zZ φ τ ν α g).binds.length=g.binds.length:=by
 induction g with
 | nil=>rfl
 | node f n s t g _=>rfl
 | kid p r _ ih=>exact ih
 | bind x t p r _ ih=>simp only[zZ,Cr.binds,List.length_cons,ih]
 | alt f n s vs p r _ ih=>exact ih
theorem zVE {D:Nat} (hφ:∀p:Cr,dpC (φ p)<=dpC p+D) (hα:∀(vs:List ByteArray) (p:Cr),(α vs p).1.length+dpC (α vs p).2<=vs.length+dpC p+D) (g:Cr):dpC (zZ φ τ ν α g)<=dpC g+D:=by
 induction g with
 | nil=>exact Nat.zero_le _
 | node f n s t g _=>exact Nat.le_add_right _ _
 | kid p r _ ih=>have:=hφ p;simp only[zZ,dpC];omega
 | bind x t p r _ ih=>have:=hφ p;simp only[zZ,dpC];omega
 | alt f n s vs p r _ ih=>have:=hα vs p;simp only[zZ,dpC];omega
end
theorem zPQ (k:Nat):∀(c:Cr) (v:ByteArray) (t:Tp),c.V0->(stF k c v t).V0:=by
 induction k with
 | zero=>intro c v t h;cases c<;>exact h
 | succ k ih =>
  intro c v t h;cases c with
  | node f n s ty g =>
   unfold stF;split
   ·split
    ·exact h
    ·split
     ·exact⟨h.1,zC4 (fun p hp=>ih _ _ _ (ih _ _ _ hp)) (fun vs p h2=>h2) g h.2⟩
     ·exact⟨h.1,zC4 (fun p hp=>ih _ _ _ hp) (fun vs p h2=>h2) g h.2⟩
   ·exact⟨h.1,zC4 (fun p hp=>ih _ _ _ hp) (fun vs p h2=>ih _ _ _ h2) g h.2⟩
  | _=>exact h
theorem zLA (u:Tp) (v z:ByteArray):(sub u [(v,.var z)]).sz<=u.sz:=by
 have h:=zK2 (M:=1) (Nat.le_refl _) u [(v,.var z)] (fun p hp=>by rw[List.mem_singleton.1 hp];exact Nat.le_refl _);omega
theorem z6K (k:Nat):∀(c:Cr) (v z:ByteArray),c.TZ->(stF k c v (.var z)).TZ:=by
 induction k with
 | zero=>intro c v t h;cases c<;>exact h
 | succ k ih =>
  intro c v z h;cases c with
  | node f n s ty g =>
   unfold stF;split
   ·split
    ·exact h
    ·split
     ·exact⟨h.1,zDM (fun p hp=>ih _ _ _ (ih _ _ _ hp)) (fun t h=>h) (fun vs p h2=>h2) g h.2⟩
     ·exact⟨h.1,zDM (fun p hp=>ih _ _ _ hp) (fun t h=>h) (fun vs p h2=>h2) g h.2⟩
   ·exact⟨Nat.lt_of_le_of_lt (zLA _ _ _) h.1,zDM (fun p hp=>ih _ _ _ hp) (fun t h=>Nat.lt_of_le_of_lt (zLA _ _ _) h) (fun vs p h2=>ih _ _ _ h2) g h.2⟩
  | _=>exact h
theorem zLM (k:Nat):∀(c:Cr) (v:ByteArray) (t:Tp),dpC (stF k c v t)<=dpC c:=by
 induction k with
 | zero=>intro c v t;cases c<;>exact Nat.le_refl _
 | succ k ih =>
  intro c v t;cases c with
  | node f n s ty g =>
   have one:∀{φ τ ν α} (n':Int) (s':ByteArray) (t':Tp),(∀p:Cr,dpC (φ p)<=dpC p+0)->(∀(vs:List ByteArray) (p:Cr),(α vs p).1.length+dpC (α vs p).2<=vs.length+dpC p+0)->dpC (.node f n' s' t' (zZ φ τ ν α g))<=dpC (.node f n s ty g):=fun {φ τ ν α} n' s' t' h1 h2=>by
    have h3:=zVE (τ:=τ) (ν:=ν) h1 h2 g;simp only[dpC,zVU];omega
   unfold stF;split
   ·split
    ·exact Nat.le_refl _
    ·split
     ·exact one _ _ _ (fun p=>Nat.le_trans (ih _ _ _) (ih _ _ _)) (fun vs p=>Nat.le_refl _)
     ·exact one _ _ _ (fun p=>ih _ _ _) (fun vs p=>Nat.le_refl _)
   ·exact one _ _ _ (fun p=>ih _ _ _) (fun vs p=>Nat.add_le_add_left (ih _ _ _) _)
  | _=>exact Nat.le_refl _
theorem zCI {k:Nat} {Q:Cr->Prop} (ih:∀(c:Cr) (x z:ByteArray),Q c->Q (sbF k c x (vr z))):∀(rs:List (ByteArray×ByteArray)) (p:Cr),Q p->Q (rs.foldl (fun p q=>sbF k p q.1 (vr q.2)) p)
 | [],p,h=>h
 | q::rs,p,h=>zCI ih rs _ (ih p q.1 q.2 h)
theorem zZV (k:Nat):∀(c:Cr) (x:ByteArray) (b:Cr),c.V0->b.V0->(sbF k c x b).V0:=by
 induction k with
 | zero=>intro c x b h hb;cases c<;>exact h
 | succ k ih =>
  intro c x b h hb;have hr:=zCI (k:=k) (Q:=Cr.V0) (fun c x z h=>ih c x (vr z) h ⟨fun _=>rfl,trivial⟩);cases c with
  | node f n s ty g =>
   have hα:∀(vs:List ByteArray) (p:Cr),p.V0->(wE (fun rs p=>sbF k (rs.foldl (fun p q=>sbF k p q.1 (vr q.2)) p) x b) x b.fv vs p).2.V0:=by
    intro vs p h2;unfold wE;split
    ·exact h2
    ·exact ih _ _ _ (hr _ _ h2) hb
   unfold sbF;split
   ·split
    ·exact hb
    ·exact h
   ·split
    ·split
     ·split
      ·exact⟨h.1,zC4 (fun p hp=>ih _ _ _ (zPQ k _ _ _ hp) hb) (fun vs p h2=>h2) g h.2⟩
      ·exact⟨h.1,zC4 (fun p hp=>ih _ _ _ hp hb) (fun vs p h2=>h2) g h.2⟩
     ·exact h
    ·split
     ·exact⟨h.1,zC4 (fun p hp=>hp) hα g h.2⟩
     ·exact⟨h.1,zC4 (fun p hp=>ih _ _ _ (hr _ _ hp) hb) hα g h.2⟩
  | _=>exact h
theorem z6D (k:Nat):∀(c:Cr) (x:ByteArray) (b:Cr),c.TZ->b.TZ->(sbF k c x b).TZ:=by
 induction k with
 | zero=>intro c x b h hb;cases c<;>exact h
 | succ k ih =>
  intro c x b h hb;have hr:=zCI (k:=k) (Q:=Cr.TZ) (fun c x z h=>ih c x (vr z) h ⟨by decide,trivial⟩);cases c with
  | node f n s ty g =>
   have hα:∀(vs:List ByteArray) (p:Cr),p.TZ->(wE (fun rs p=>sbF k (rs.foldl (fun p q=>sbF k p q.1 (vr q.2)) p) x b) x b.fv vs p).2.TZ:=by
    intro vs p h2;unfold wE;split
    ·exact h2
    ·exact ih _ _ _ (hr _ _ h2) hb
   unfold sbF;split
   ·split
    ·exact hb
    ·exact h
   ·split
    ·split
     ·split
      ·exact⟨h.1,zDM (fun p hp=>ih _ _ _ (z6K k _ _ _ hp) hb) (fun t h=>h) (fun vs p h2=>h2) g h.2⟩
      ·exact⟨h.1,zDM (fun p hp=>ih _ _ _ hp hb) (fun t h=>h) (fun vs p h2=>h2) g h.2⟩
     ·exact h
    ·split
     ·exact⟨h.1,zDM (fun p hp=>hp) (fun t h=>h) hα g h.2⟩
     ·exact⟨h.1,zDM (fun p hp=>ih _ _ _ (hr _ _ hp) hb) (fun t h=>h) hα g h.2⟩
  | _=>exact h
theorem zZM (k:Nat):∀(c:Cr) (x:ByteArray) (b:Cr),dpC (sbF k c x b)<=dpC c+dpC b:=by
 induction k with
 | zero=>intro c x b;cases c<;>exact Nat.le_add_right _ _
 | succ k ih =>
  intro c x b;have hr:∀(M:Nat) (rs:List (ByteArray×ByteArray)) (p:Cr),dpC p<=M->dpC (rs.foldl (fun p q=>sbF k p q.1 (vr q.2)) p)<=M:=fun M=>zCI (k:=k) (Q:=fun c=>dpC c<=M) (fun c x z h=>by have h1:=ih c x (vr z);have h2:dpC (vr z)=0:=rfl;omega);cases c with
  | node f n s ty g =>
   have one:∀{φ τ ν α} (n':Int) (s':ByteArray) (t':Tp),(∀p:Cr,dpC (φ p)<=dpC p+dpC b)->(∀(vs:List ByteArray) (p:Cr),(α vs p).1.length+dpC (α vs p).2<=vs.length+dpC p+dpC b)->dpC (.node f n' s' t' (zZ φ τ ν α g))<=dpC (.node f n s ty g)+dpC b:=fun {φ τ ν α} n' s' t' h1 h2=>by
    have h3:=zVE (τ:=τ) (ν:=ν) h1 h2 g;simp only[dpC,zVU];omega
   have hα:∀(vs:List ByteArray) (p:Cr),(wE (fun rs p=>sbF k (rs.foldl (fun p q=>sbF k p q.1 (vr q.2)) p) x b) x b.fv vs p).1.length+dpC (wE (fun rs p=>sbF k (rs.foldl (fun p q=>sbF k p q.1 (vr q.2)) p) x b) x b.fv vs p).2<=vs.length+dpC p+dpC b:=by
    intro vs p;unfold wE;split
    ·simp only;omega
    ·rename_i rs _;have h1:=ih (rs.foldl (fun p q=>sbF k p q.1 (vr q.2)) p) x b;have h2:=hr (dpC p) rs p (Nat.le_refl _);simp only[List.length_map];omega
   unfold sbF;split
   ·split
    ·exact Nat.le_add_left _ _
    ·exact Nat.le_add_right _ _
   ·split
    ·split
     ·split
      ·exact one _ _ _ (fun p=>Nat.le_trans (ih _ _ _) (Nat.add_le_add_right (zLM _ _ _ _) _)) (fun vs p=>by simp only;omega)
      ·exact one _ _ _ (fun p=>ih _ _ _) (fun vs p=>by simp only;omega)
     ·exact Nat.le_add_right _ _
    ·split
     ·exact one _ _ _ (fun p=>Nat.le_add_right _ _) hα
     ·exact one _ _ _ (fun p=>Nat.le_trans (ih _ _ _) (Nat.add_le_add_right (hr _ _ p (Nat.le_refl _)) _)) hα
  | _=>exact Nat.le_add_right _ _
theorem z5H (c:Cr):c.Pk->c.V0:=by
 induction c with
 | nil=>exact fun h=>h
 | node f n s t g ih=>exact fun h=>⟨h.2.1.2.2,ih h.2.2.2.2⟩
 | kid p r ihp ih=>exact fun h=>⟨ihp h.1,ih h.2⟩
 | bind x t p r ihp ih=>exact fun h=>⟨ihp h.2.2.1,ih h.2.2.2⟩
 | alt f n s vs p r ihp ih=>exact fun h=>⟨ihp h.2.2.2.2.1,ih h.2.2.2.2.2⟩
theorem z9W (c:Cr):c.Ok->(if c.isN then 0 else c.binds.length)+dpC c<=c.wt:=by
 induction c with
 | nil=>exact fun _=>Nat.le_refl _
 | node f n s t g ih =>
  intro ho;obtain⟨h1,h2⟩:=zY ho;have h3:=ih h2;have:t.sz≥1:=zA2 t;rw[h1] at h3;simp only[Cr.wt,dpC,Cr.isN,Bool.false_eq_true,if_false,if_true] at h3⊢;split<;>omega
 | kid p r ihp ih =>
  intro ho;have h3:=ihp ho.2.2.1;have h4:=ih ho.2.2.2;rw[ho.1] at h3;rw[ho.2.1] at h4;simp only[Cr.wt,dpC,Cr.isN,Cr.binds,Bool.false_eq_true,if_false,if_true] at h3 h4⊢;omega
 | bind x t p r ihp ih =>
  intro ho;have h3:=ihp ho.2.2.2.1;have h4:=ih ho.2.2.2.2;rw[ho.1] at h3;rw[ho.2.1] at h4;simp only[Cr.wt,dpC,Cr.isN,Cr.binds,List.length_cons,Bool.false_eq_true,if_false,if_true] at h3 h4⊢;omega
 | alt f n s vs p r ihp ih =>
  intro ho;have h3:=ihp ho.2.2.2.2.2.1;have h4:=ih ho.2.2.2.2.2.2;rw[ho.1] at h3;rw[ho.2.1] at h4;simp only[Cr.wt,dpC,Cr.isN,Cr.binds,Bool.false_eq_true,if_false,if_true] at h3 h4⊢;omega
theorem z7K (s:ByteArray) (t:Tp) (c:Cr):dpC (zCN s t c)<=1+dpC c:=by simp[dpC,Cr.binds]
theorem z9T {a b:Cr} (ha:Sa a) (hb:Sa b) (hd:dpC a<=9000) {r:Bool} (h:if r then dbc a [] []=dbc b [] [] else ¬dbc a [] []=dbc b [] []):zF Tryz.prog zD7 [eC a,eC b] (.sb r):=by
 have h1:=zWC ha hb hd;cases r with
 | true=>rw[decide_eq_true (by simpa using h)] at h1;exact h1
 | false=>rw[decide_eq_false (by simpa using h)] at h1;exact h1
end Go.Proofs.YtgonkhaebmfgiaaGreatDoor
