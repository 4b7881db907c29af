/- All types within core are so. Plain. No condition. -/
import Derived.Test.YtgonkhaebmfgiaaGreatDoorR
import Derived.Test.YtgonkhaebmfgiaaGreatDoorC
import Derived.Test.YtgonkhaebmfgiaaGreatDoorU
set_option linter.unusedSimpArgs false
set_option linter.unusedVariables false
namespace Go.Proofs.YtgonkhaebmfgiaaGreatDoor
open Go Fp
set_option maxRecDepth 10000
set_option maxHeartbeats 4000000
set_option linter.unusedVariables false
def Cr.TA (R:Tp->Prop):Cr->Prop
 | .nil=>True
 | .node _ _ _ t g=>R t/\g.TA R
 | .kid p r=>p.TA R/\r.TA R
 | .bind _ t p r=>R t/\p.TA R/\r.TA R
 | .alt _ _ _ _ p r=>p.TA R/\r.TA R
theorem Cr.TA.mono {R R':Tp->Prop} (h:∀t,R t->R' t) (c:Cr):c.TA R->c.TA R':=by
 induction c with
 | nil=>exact fun h=>h
 | node f n s t g ih=>exact fun q=>⟨h _ q.1,ih q.2⟩
 | kid p r ihp ih=>exact fun q=>⟨ihp q.1,ih q.2⟩
 | bind x t p r ihp ih=>exact fun q=>⟨h _ q.1,ihp q.2.1,ih q.2.2⟩
 | alt f n s vs p r ihp ih=>exact fun q=>⟨ihp q.1,ih q.2⟩
theorem z8W (c:Cr):c.TZ↔c.TA (fun t=>t.sz<900000):=by
 induction c with
 | nil=>exact Iff.rfl
 | node f n s t g ih=>exact and_congr Iff.rfl ih
 | kid p r ihp ih=>exact and_congr ihp ih
 | bind x t p r ihp ih=>exact and_congr Iff.rfl (and_congr ihp ih)
 | alt f n s vs p r ihp ih=>exact and_congr ihp ih
section
variable {φ:Cr->Cr} {τ:Tp->Tp} {ν:ByteArray->ByteArray} {α:List ByteArray->Cr->List ByteArray×Cr}
theorem jX {R R':Tp->Prop} (h0:∀t,R t->R' t) (hφ:∀p:Cr,p.TA R->(φ p).TA R') (hτ:∀t:Tp,R t->R' (τ t)) (hα:∀(vs:List ByteArray) (p:Cr),p.TA R->(α vs p).2.TA R') (g:Cr):g.TA R->(zZ φ τ ν α g).TA R':=by
 induction g with
 | nil=>exact fun h=>h
 | node f n s t g _=>exact fun h=>⟨h0 _ h.1,h.2.mono h0⟩
 | kid p r _ ih=>exact fun h=>⟨hφ p h.1,ih h.2⟩
 | bind x t p r _ ih=>exact fun h=>⟨hτ t h.1,hφ p h.2.1,ih h.2.2⟩
 | alt f n s vs p r _ ih=>exact fun h=>⟨hα vs p h.1,ih h.2⟩
end
theorem zY0 (k:Nat):∀(c:Cr) (v:ByteArray) (t:Tp) (R R':Tp->Prop),(∀u,R u->R' u)->(∀u,R u->R' (sub u [(v,t)]))->(∀u y z,R u->R (sub u [(y,.var z)]))->c.TA R->(stF k c v t).TA R':=by
 induction k with
 | zero=>intro c v t R R' h0 _ _ h;cases c<;>exact h.mono h0
 | succ k ih =>
  intro c v t R R' h0 h1 h2 h;cases c with
  | node f n s ty g =>
   unfold stF;split
   ·split
    ·exact⟨h0 _ h.1,h.2.mono h0⟩
    ·split
     ·exact⟨h0 _ h.1,jX h0 (fun p hp=>ih _ _ _ R R' h0 h1 h2 (ih _ _ _ R R (fun _ h=>h) (fun u hu=>h2 u _ _ hu) h2 hp)) h0 (fun vs p h3=>h3.mono h0) g h.2⟩
     ·exact⟨h0 _ h.1,jX h0 (fun p hp=>ih _ _ _ R R' h0 h1 h2 hp) h0 (fun vs p h3=>h3.mono h0) g h.2⟩
   ·exact⟨h1 _ h.1,jX h0 (fun p hp=>ih _ _ _ R R' h0 h1 h2 hp) h1 (fun vs p h3=>ih _ _ _ R R' h0 h1 h2 h3) g h.2⟩
  | _=>exact h.mono h0
theorem zQG (s:ByteArray) (own:List ByteArray) (ps:Env'):(caught (kept s own ps)).length<=(caught ps).length:=by
 induction ps with
 | nil=>exact Nat.le_refl _
 | cons p ps ih =>
  have e:(caught (p::ps)).length=(fv p.2).length+(caught ps).length:=by unfold caught;rw[List.flatMap_cons,List.length_append]
  unfold kept at ih⊢;rw[e,List.filter_cons];split
  ·have e2:(caught (p::ps.filter fun p=>decide (p.1≠s) && memb p.1 own)).length=(fv p.2).length+(caught (ps.filter fun p=>decide (p.1≠s) && memb p.1 own)).length:=by unfold caught;rw[List.flatMap_cons,List.length_append]
   rw[e2];omega
  ·omega
theorem zP9 {K:Nat} (u:Tp):∀ps:Env',LowT K u->(∀p∈ps,LowT K p.2)->(caught ps).length+(fv u).length+2*dp u<K->LowT K (sub u ps):=by
 induction u with
 | var x =>
  intro ps h hp _;unfold sub;cases hl:look x ps with
  | none=>exact h
  | some t=>exact hp _ (zB9 hl)
 | app a b iha ihb =>
  intro ps h hp hs;have h1:=yZ (fv a) (fv (.app a b)) (wY a) fun x hx=>mem_fv_app.2 (.inl hx);have h2:=yZ (fv b) (fv (.app a b)) (wY b) fun x hx=>mem_fv_app.2 (.inr hx);simp only[dp] at hs;unfold sub;exact⟨iha ps h.1 hp (by omega),ihb ps h.2 hp (by omega)⟩
 | all s a ih =>
  intro ps h hp hs;have hk:=zQG s (fv a) ps;have h1:=yZ (fv a) (s::fv (.all s a)) (wY a) fun x hx=>by
   by_cases e:x=s
   ·rw[e];exact List.mem_cons_self
   ·exact List.mem_cons_of_mem _ (mem_fv_all.2 ⟨hx,e⟩)
  rw[List.length_cons] at h1;simp only[dp] at hs;have hpk:∀p∈kept s (fv a) ps,LowT K p.2:=fun p hp2=>hp p (wZ hp2);unfold sub;split
  ·have hff:=zBI (caught (kept s (fv a) ps)++fv a);rw[List.length_append] at hff;have hz:Low K (lett (ff (caught (kept s (fv a) ps)++fv a))):=⟨_,by omega,rfl⟩
   refine⟨hz,ih _ h.2 (fun p hp2=>?_) ?_⟩
   ·rcases List.mem_append.1 hp2 with h3|h3
    ·exact hpk p h3
    ·rw[List.mem_singleton.1 h3];exact hz
   ·have e:(caught (kept s (fv a) ps++[(s,.var (lett (ff (caught (kept s (fv a) ps)++fv a))))])).length=(caught (kept s (fv a) ps)).length+1:=by unfold caught;rw[List.flatMap_append,List.length_append];simp[fv]
    rw[e];omega
  ·exact⟨h.1,ih _ h.2 hpk (by omega)⟩
 | _=>exact fun _ h _ _=>h
theorem zOF {u t:Tp} {s x:ByteArray} (h:x∈fv (sub u [(s,t)])):(x≠s/\x∈fv u)∨(s∈fv u/\x∈fv t):=by
 obtain⟨y,h1,h2⟩:=(zSY u [(s,t)] x).1 h;have e1:look y [(s,t)]=if s=y then some t else none:=by
  unfold look look;split<;>rfl
 unfold Fo at h2;rw[e1] at h2;by_cases e:s=y
 ·rw[if_pos e] at h2;exact .inr ⟨e ▸ h1,h2⟩
 ·rw[if_neg e] at h2;have h2:x=y:=h2;exact .inl ⟨fun e2=>e (e2 ▸ h2 ▸ rfl),h2 ▸ h1⟩
theorem zO4 {l a b:List ByteArray} (hn:l.Nodup) (h:∀x∈l,x∈a∨x∈b):l.length<=a.length+b.length:=by
 have:=yZ l (a++b) hn (fun x hx=>List.mem_append.2 (h x hx))
 rwa [List.length_append] at this
theorem zK3 {l m:List ByteArray} (h:∀x∈l,x∈m):ff l<=m.length:=by
 have:=yZ ((List.range (ff l)).map lett) m (by
  rw[List.nodup_iff_pairwise_ne] at *;refine List.pairwise_map.2 (List.Pairwise.imp (fun h e=>h (zKK e)) (List.nodup_range)))
  (fun x hx=>by obtain⟨j,hj,rfl⟩:=List.mem_map.1 hx;exact h _ (zIE l j (by simpa using hj)))
 simpa using this
section
variable {x:ByteArray}
theorem z5F {g p:Cr} (hp:p∈g.kids):g.isN=false->g.Ok->(x∈p.fv->x∈g.fv)/\(x∈p.tv->x∈g.tv):=by
 induction g with
 | nil=>cases hp
 | node=>intro h;cases h
 | kid q r _ ih =>
  intro _ ho;rcases List.mem_cons.1 hp with rfl|hp
  ·exact⟨fun h=>mem_fv_kid.2 (.inl h),fun h=>mem_tv_kid.2 (.inl h)⟩
  ·have:=ih hp ho.2.1 ho.2.2.2;exact⟨fun h=>mem_fv_kid.2 (.inr (this.1 h)),fun h=>mem_tv_kid.2 (.inr (this.2 h))⟩
 | bind s t q r _ ih=>intro _ ho;have:=ih hp ho.2.1 ho.2.2.2.2;exact⟨fun h=>mem_fv_bind.2 (.inr (this.1 h)),fun h=>mem_tv_bind.2 (.inr (.inr (this.2 h)))⟩
 | alt f n s vs q r _ ih=>intro _ ho;have:=ih hp ho.2.1 ho.2.2.2.2.2.2;exact⟨fun h=>mem_fv_alt.2 (.inr (this.1 h)),fun h=>mem_tv_alt.2 (.inr (this.2 h))⟩
theorem zZG {g:Cr} {b:Bdg} (hp:b∈g.binds):g.isN=false->g.Ok->(x∈b.2.2.fv->x∈g.fv)/\(x∈b.2.2.tv->x∈g.tv):=by
 induction g with
 | nil=>cases hp
 | node=>intro h;cases h
 | kid q r _ ih=>intro _ ho;have:=ih hp ho.2.1 ho.2.2.2;exact⟨fun h=>mem_fv_kid.2 (.inr (this.1 h)),fun h=>mem_tv_kid.2 (.inr (this.2 h))⟩
 | bind s t q r _ ih =>
  intro _ ho;rcases List.mem_cons.1 hp with rfl|hp
  ·exact⟨fun h=>mem_fv_bind.2 (.inl h),fun h=>mem_tv_bind.2 (.inr (.inl h))⟩
  ·have:=ih hp ho.2.1 ho.2.2.2.2;exact⟨fun h=>mem_fv_bind.2 (.inr (this.1 h)),fun h=>mem_tv_bind.2 (.inr (.inr (this.2 h)))⟩
 | alt f n s vs q r _ ih=>intro _ ho;have:=ih hp ho.2.1 ho.2.2.2.2.2.2;exact⟨fun h=>mem_fv_alt.2 (.inr (this.1 h)),fun h=>mem_tv_alt.2 (.inr (this.2 h))⟩
theorem z5R {g:Cr} {a:Alg} (hp:a∈g.alts):g.isN=false->g.Ok->(x∈a.2.2.fv->x∈a.2.1∨x∈g.fv)/\(x∈a.2.2.tv->x∈g.tv):=by
 induction g with
 | nil=>cases hp
 | node=>intro h;cases h
 | kid q r _ ih=>intro _ ho;have:=ih hp ho.2.1 ho.2.2.2;exact⟨fun h=>(this.1 h).imp id fun h=>mem_fv_kid.2 (.inr h),fun h=>mem_tv_kid.2 (.inr (this.2 h))⟩
 | bind s t q r _ ih=>intro _ ho;have:=ih hp ho.2.1 ho.2.2.2.2;exact⟨fun h=>(this.1 h).imp id fun h=>mem_fv_bind.2 (.inr h),fun h=>mem_tv_bind.2 (.inr (.inr (this.2 h)))⟩
 | alt f n s vs q r _ ih =>
  intro _ ho;rcases List.mem_cons.1 hp with rfl|hp
  ·exact⟨fun h=>by
    by_cases hv:x∈vs
    ·exact .inl hv
    ·exact .inr (mem_fv_alt.2 (.inl ⟨h,hv⟩)),fun h=>mem_tv_alt.2 (.inl h)⟩
  ·have:=ih hp ho.2.1 ho.2.2.2.2.2.2;exact⟨fun h=>(this.1 h).imp id fun h=>mem_fv_alt.2 (.inr h),fun h=>mem_tv_alt.2 (.inr (this.2 h))⟩
end
def Ty5 (t:Tp):Prop:=LowT 2000 t/\t.sz<900000/\(fv t).length+2*dp t<=1000
theorem Ty5.s {t:Tp} (h:Ty5 t):TyS t:=⟨h.1,by have:=h.2.2;omega,h.2.1⟩
theorem zSC:Ty5 .no:=⟨trivial,by decide,by decide⟩
theorem z9C (c:Cr):c.TA Ty5->c.TyA:=by
 induction c with
 | nil=>exact fun h=>h
 | node f n s t g ih=>exact fun h=>⟨h.1.s,ih h.2⟩
 | kid p r ihp ih=>exact fun h=>⟨ihp h.1,ih h.2⟩
 | bind x t p r ihp ih=>exact fun h=>⟨h.1.s,ihp h.2.1,ih h.2.2⟩
 | alt f n s vs p r ihp ih=>exact fun h=>⟨ihp h.1,ih h.2⟩
structure Wm (c:Cr):Prop where
 n:c.isN=true
 ok:c.Ok
 few:c.Few
 ta:c.TA Ty5
 sz:c.sz<=10000
 tn:c.tn<=60000
 fw:c.fv.length+dpC c<=700
 vw:c.tv.length+dpC c<=700
theorem Wm.gd {c:Cr} (h:Wm c):Gd c:=⟨h.n,h.ok,h.few,z9C c h.ta⟩
theorem width {c p:Cr} {A:List ByteArray} (hc:c.Ok) (hn:c.isN=true) (h1:c.f≠1) (hd:(dIn c []).length+c.names0.length+A.length+dpC p<=dpC c)
  (hf:∀g,c = .node c.f c.n c.s c.t g->∀x,(x∈p.fv->x∈A∨x∈g.fv)/\(x∈p.tv->x∈g.tv)):p.fv.length+dpC p<=c.fv.length+dpC c/\p.tv.length+dpC p<=c.tv.length+dpC c:=by
 cases c with
 | node f n s t g =>
  have hf:=hf g rfl;have h1:f≠1:=h1;have e1:=zO4 (l:=p.fv) (a:=(Cr.node f n s t g).fv) (b:=(Cr.node f n s t g).names0++A) (zE4 p) fun x hx=>by
   by_cases hm:x∈(Cr.node f n s t g).names0
   ·exact .inr (List.mem_append_left _ hm)
   ·rcases (hf x).1 hx with h|h
    ·exact .inr (List.mem_append_right _ h)
    ·exact .inl ((wF h1).2 ⟨h,hm⟩)
  have e2:=zO4 (l:=p.tv) (a:=(Cr.node f n s t g).tv) (b:=dIn (.node f n s t g) []) (zCD p) fun x hx=>by
   by_cases hm:f=7/\x=s
   ·exact .inr (by unfold dIn;rw[if_pos (show (Cr.node f n s t g).f=7 from hm.1),hm.2];exact List.mem_cons_self)
   ·exact .inl (mem_tv_node.2 (.inr ⟨(hf x).2 hx,hm⟩))
  rw[List.length_append] at e1;omega
 | _=>cases hn
theorem zKQ {R:Tp->Prop} (c:Cr) (h:c.TA R):(∀p∈c.kids,p.TA R)/\(∀b∈c.binds,b.2.2.TA R)/\∀a∈c.alts,a.2.2.TA R :=
 parts_all (P:=Cr.TA R) (Q:=Cr.TA R) (fun _ _ h=>h) (fun _ _ _ _ h=>h.2) (fun _ _ _ _ _ _ h=>h) (fun _ _ _ _ _ h=>h.2) c h
theorem zJQ {R:Tp->Prop} (g:Cr):g.TA R->∀b∈g.binds,R b.2.1:=by
 induction g with
 | nil=>intro _ b hb;cases hb
 | node f n s t g ih=>intro h b hb;exact ih h.2 b hb
 | kid p r _ ih=>intro h b hb;exact ih h.2 b hb
 | bind x t p r _ ih =>
  intro h b hb;rcases List.mem_cons.1 hb with rfl|hb
  ·exact h.1
  ·exact ih h.2.2 b hb
 | alt f n s vs p r _ ih=>intro h b hb;exact ih h.2 b hb
theorem Wm.part {c d:Cr} (h:Wm c) {p:Pp} (hd:zU (zD c) p=some d):Wm d/\d.sz<c.sz:=by
 obtain⟨g1,g2⟩:=h.gd.part hd;obtain⟨k1,k2,k3⟩:=zKQ c h.ta;have hsz:=h.sz;have htn:=h.tn;have hfw:=h.fw;have hvw:=h.vw;have hok:=h.ok;have hn:=h.n;obtain⟨d1,d2,d3⟩:=zJW hn;have h1:∀{α:Type} {l:List α} {a:α},a∈l->(c.f=1->l=[])->c.f≠1:=fun ha h0 hf=>by rw[h0 hf] at ha;cases ha
 have one:c.f=1->c.kids=[]/\c.binds=[]/\c.alts=[]:=fun hf=>by
  cases c with
  | node f n s t g=>obtain⟨_,rfl⟩:=hok.2.1 hf;exact⟨rfl,rfl,rfl⟩
  | _=>cases hn
 have lst:∀g,c = .node c.f c.n c.s c.t g->g.isN=false/\g.Ok/\c.kids=g.kids/\c.binds=g.binds/\c.alts=g.alts:=fun g hg=>by
  have ho:=hok;rw[hg] at ho;exact⟨ho.1,(zY ho).2,by rw[hg];rfl,by rw[hg];rfl,by rw[hg];rfl⟩
 cases p with
 | kid j =>
  have hm:d∈c.kids:=List.mem_of_getElem? hd;have w:=width (A:=[]) hok hn (h1 hm fun hf=>(one hf).1) (by simpa using d1 d hm) fun g hg x=>by
   obtain⟨a1,a2,a3,_⟩:=lst g hg;have:=z5F (x:=x) (a3 ▸ hm) a1 a2;exact⟨fun h => .inr (this.1 h),this.2⟩
  exact⟨⟨g1.n,g1.ok,g1.few,k1 d hm,by omega,Nat.le_trans (zYR hm) htn,by omega,by omega⟩,g2⟩
 | bind j =>
  have hd:(c.binds[j]?).map (·.2.2)=some d:=hd;cases hb:c.binds[j]? with
  | none=>rw[hb] at hd;cases hd
  | some b =>
   rw[hb] at hd;simp at hd;subst hd;have hm:=List.mem_of_getElem? hb;have w:=width (A:=[]) hok hn (h1 hm fun hf=>(one hf).2.1) (by simpa using d2 b hm) fun g hg x=>by
    obtain⟨a1,a2,_,a3,_⟩:=lst g hg;have:=zZG (x:=x) (a3 ▸ hm) a1 a2;exact⟨fun h => .inr (this.1 h),this.2⟩
   exact⟨⟨g1.n,g1.ok,g1.few,k2 b hm,by omega,by have:=zVW hm;omega,by omega,by omega⟩,g2⟩
 | alt j =>
  have hd:(c.alts[j]?).map (·.2.2)=some d:=hd;cases hb:c.alts[j]? with
  | none=>rw[hb] at hd;cases hd
  | some b =>
   rw[hb] at hd;simp at hd;subst hd;have hm:=List.mem_of_getElem? hb;have w:=width (p:=b.2.2) (A:=b.2.1) hok hn (h1 hm fun hf=>(one hf).2.2) (by
    have h5:=(zGF c).2.2 b hm;have h6:(dIn c []).length+c.names0.length=0:=by
     cases c with
     | node f n s t g =>
      have h9:f=9:=hok.2.2.2.2.2.1 fun e=>by have hm:b∈g.alts:=hm;rw[e] at hm;cases hm
      subst h9;have hb0:g.binds=[]:=Classical.byContradiction fun e=>absurd (hok.2.2.2.2.1 e) (by decide);have e1:(Cr.node 9 n s t g).names0=[]:=by show (if (9:Int)=5 then [s] else [])++g.binds.map (·.1)=[];rw[hb0];rfl
      rw[e1];rfl
     | _=>cases hn
    omega) fun g hg x=>by
    obtain⟨a1,a2,_,_,a3⟩:=lst g hg;exact z5R (x:=x) (a3 ▸ hm) a1 a2
   exact⟨⟨g1.n,g1.ok,g1.few,k3 b hm,by omega,Nat.le_trans (zYI hm) htn,by omega,by omega⟩,g2⟩
section
variable {φ:Cr->Cr} {τ:Tp->Tp} {ν:ByteArray->ByteArray} {α:List ByteArray->Cr->List ByteArray×Cr}
theorem zES (hφ:∀p:Cr,(φ p).tn<=p.tn) (hτ:∀t:Tp,(τ t).sz<=t.sz) (hα:∀(vs:List ByteArray) (p:Cr),(α vs p).2.tn<=p.tn) (g:Cr):(zZ φ τ ν α g).tn<=g.tn:=by
 induction g with
 | nil=>exact Nat.le_refl _
 | node f n s t g _=>exact Nat.le_refl _
 | kid p r _ ih=>have:=hφ p;simp only[zZ,Cr.tn];omega
 | bind x t p r _ ih=>have:=hφ p;have:=hτ t;simp only[zZ,Cr.tn];omega
 | alt f n s vs p r _ ih=>have:=hα vs p;simp only[zZ,Cr.tn];omega
end
theorem zT5 (k:Nat):∀(c:Cr) (v z:ByteArray),(stF k c v (.var z)).tn<=c.tn:=by
 induction k with
 | zero=>intro c v t;cases c<;>exact Nat.le_refl _
 | succ k ih =>
  intro c v z;cases c with
  | node f n s ty g =>
   unfold stF;split
   ·split
    ·exact Nat.le_refl _
    ·split
     ·have:=zES (φ:=fun p=>stF k (stF k p s (.var (lett (ff (fvT (.var z)++g.tv))))) v (.var z)) (τ:=id) (ν:=id) (α:=Prod.mk) (fun p=>Nat.le_trans (ih _ _ _) (ih _ _ _)) (fun t=>Nat.le_refl _) (fun vs p=>Nat.le_refl _) g;exact Nat.add_le_add_left this _
     ·have:=zES (φ:=fun p=>stF k p v (.var z)) (τ:=id) (ν:=id) (α:=Prod.mk) (fun p=>ih _ _ _) (fun t=>Nat.le_refl _) (fun vs p=>Nat.le_refl _) g;exact Nat.add_le_add_left this _
   ·have:=zES (φ:=fun p=>stF k p v (.var z)) (τ:=fun u=>sub u [(v,.var z)]) (ν:=id) (α:=fun vs p=>(vs,stF k p v (.var z))) (fun p=>ih _ _ _) (fun t=>zLA _ _ _) (fun vs p=>ih _ _ _) g;exact Nat.add_le_add (zLA _ _ _) this
  | _=>exact Nat.le_refl _
theorem zV3 {k:Nat} (ih:∀(c:Cr) (x z:ByteArray),(sbF k c x (vr z)).tn<=c.tn):∀(rs:List (ByteArray×ByteArray)) (p:Cr),(rs.foldl (fun p q=>sbF k p q.1 (vr q.2)) p).tn<=p.tn
 | [],p=>Nat.le_refl _
 | q::rs,p=>Nat.le_trans (zV3 ih rs _) (ih _ _ _)
theorem z7Y (k:Nat):∀(c:Cr) (x z:ByteArray),(sbF k c x (vr z)).tn<=c.tn:=by
 induction k with
 | zero=>intro c v t;cases c<;>exact Nat.le_refl _
 | succ k ih =>
  intro c x z;have hr:=zV3 ih;cases c with
  | node f n s ty g =>
   have hα:∀(vs:List ByteArray) (p:Cr),(wE (fun rs p=>sbF k (rs.foldl (fun p q=>sbF k p q.1 (vr q.2)) p) x (vr z)) x (vr z).fv vs p).2.tn<=p.tn:=by
    intro vs p;unfold wE;split
    ·exact Nat.le_refl _
    ·exact Nat.le_trans (ih _ _ _) (hr _ _)
   unfold sbF;split
   ·split
    ·have h1:(vr z).tn<=1:=by simp[Cr.tn,Tp.sz]
     have h2:=zA2 ty;show (vr z).tn<=ty.sz+g.tn;omega
    ·exact Nat.le_refl _
   ·split
    ·split
     ·rw[if_neg (show ¬s∈(vr z).tv by rw[zNR];exact List.not_mem_nil)];exact Nat.add_le_add_left (zES (φ:=fun p=>sbF k p x (vr z)) (τ:=id) (ν:=id) (α:=Prod.mk) (fun p=>ih _ _ _) (fun t=>Nat.le_refl _) (fun vs p=>Nat.le_refl _) g) _
     ·exact Nat.le_refl _
    ·split
     ·exact Nat.add_le_add_left (zES (φ:=id) (τ:=id) (ν:=id) (fun p=>Nat.le_refl _) (fun t=>Nat.le_refl _) hα g) _
     ·rename_i rs _;exact Nat.add_le_add_left (zES (φ:=fun p=>sbF k (rs.foldl (fun p q=>sbF k p q.1 (vr q.2)) p) x (vr z)) (τ:=id) (ν:=nw rs) (fun p=>Nat.le_trans (ih _ _ _) (hr _ _)) (fun t=>Nat.le_refl _) hα g) _
  | _=>exact Nat.le_refl _
theorem z8I {R:Tp->Prop} (h0:R .no) (k:Nat):∀(c:Cr) (x z:ByteArray),c.TA R->(sbF k c x (vr z)).TA R:=by
 induction k with
 | zero=>intro c v t h;cases c<;>exact h
 | succ k ih =>
  intro c x z h;have hr:=zCI (k:=k) (Q:=Cr.TA R) ih;cases c with
  | node f n s ty g =>
   have hα:∀(vs:List ByteArray) (p:Cr),p.TA R->(wE (fun rs p=>sbF k (rs.foldl (fun p q=>sbF k p q.1 (vr q.2)) p) x (vr z)) x (vr z).fv vs p).2.TA R:=by
    intro vs p h2;unfold wE;split
    ·exact h2
    ·exact ih _ _ _ (hr _ _ h2)
   unfold sbF;split
   ·split
    ·exact⟨h0,trivial⟩
    ·exact h
   ·split
    ·split
     ·rw[if_neg (show ¬s∈(vr z).tv by rw[zNR];exact List.not_mem_nil)];exact⟨h.1,jX (fun _ h=>h) (fun p hp=>ih _ _ _ hp) (fun _ h=>h) (fun vs p h2=>h2) g h.2⟩
     ·exact h
    ·split
     ·exact⟨h.1,jX (fun _ h=>h) (fun p hp=>hp) (fun _ h=>h) hα g h.2⟩
     ·exact⟨h.1,jX (fun _ h=>h) (fun p hp=>ih _ _ _ (hr _ _ hp)) (fun _ h=>h) hα g h.2⟩
  | _=>exact h
theorem zG2 {l l':List ByteArray} {s z:ByteArray} (hn:l'.Nodup) (h:∀x∈l',(x≠s/\x∈l)∨(s∈l/\x=z)):l'.length<=l.length:=by
 by_cases hs:s∈l
 ·have:=yZ l' (z::l.filter fun y=>decide (y≠s)) hn fun x hx=>by
   rcases h x hx with⟨h1,h2⟩|⟨_,h2⟩
   ·exact List.mem_cons_of_mem _ (List.mem_filter.2 ⟨h2,decide_eq_true h1⟩)
   ·rw[h2];exact List.mem_cons_self
  rw[List.length_cons] at this;have h2:=(List.length_filter_lt_length_iff_exists (p:=fun y=>decide (y≠s)) (l:=l)).2 ⟨s,hs,by simp⟩;omega
 ·exact yZ l' l hn fun x hx=>by
   rcases h x hx with⟨_,h2⟩|⟨h2,_⟩
   ·exact h2
   ·exact absurd h2 hs
theorem z0E {c b:Cr} {x:ByteArray} {N:Nat} (hc:c.Ok) (hn:c.isN=true) (hb:b.Ok) (hbn:b.isN=true) (hs:c.sz<=N) (y:ByteArray):y∈(sbF N c x b).tv->y∈c.tv∨(x∈c.fv/\y∈b.tv):=by
 have h0:=zLO hc hn hb hbn hs (x:=x);have h1:=zA3 (sbF N c x b) [] [] y (qK N c x b hn hc hbn hb).2.1;have h2:=zA3 c [] [] y hc;have h3:=zA3 b [] [] y hb;rw[h0,z0I] at h1;simp only[List.not_mem_nil,not_false_eq_true,and_true] at h1 h2 h3;rw[<-h1,h2];rintro (h|⟨z,h4,h5⟩)
 ·exact .inl h
 ·unfold sgO at h5;by_cases hz:z=x
  ·subst hz;rw[if_pos rfl,h3] at h5;exact .inr ⟨((zD2 c [] [] z).1 h4).1,h5⟩
  ·rw[if_neg hz] at h5;exact absurd h5 (by simp[qF])
theorem Wm.sb {c:Cr} (h:Wm c) (k:Nat) (hk:c.sz<=k) (x z:ByteArray):Wm (sbF k c x (vr z))/\(sbF k c x (vr z)).sz=c.sz:=by
 obtain⟨a1,a2,a3⟩:=qK k c x (vr z) h.n h.ok rfl (zBT _);have a3:=a3 (zRG _);have hd:=zZM k c x (vr z);have hd0:dpC (vr z)=0:=rfl;have e1:=zG2 (l:=c.fv) (l':=(sbF k c x (vr z)).fv) (s:=x) (z:=z) (zE4 _) fun y hy=>by
  rcases (zJ1 (zT1 k) h.ok h.n (zBT _) rfl hk y).1 hy with⟨h1,h2⟩|⟨h1,h2⟩
  ·exact .inl ⟨h1,h2⟩
  ·exact .inr ⟨h1,by rw[zDS] at h2;exact List.mem_singleton.1 h2⟩
 have e2:=yZ (sbF k c x (vr z)).tv c.tv (zCD _) fun y hy=>by
  rcases z0E h.ok h.n (zBT _) rfl hk y hy with h1|⟨_,h1⟩
  ·exact h1
  ·rw[zNR] at h1;cases h1
 have hfw:=h.fw;have hvw:=h.vw;exact⟨⟨a1,a2,zPE k c x (vr z) h.few trivial,z8I zSC k c x z h.ta,by rw[a3];exact h.sz,Nat.le_trans (z7Y k c x z) h.tn,by omega,by omega⟩,a3⟩
theorem z9A (z:ByteArray):Wm (vr z):=⟨rfl,zBT _,trivial,⟨zSC,trivial⟩,by rw[zRG];decide,by simp[Cr.tn,Tp.sz],by rw[zDS];show 1+0<=700;decide,by rw[zNR];show 0+0<=700;decide⟩
theorem zRA {τ:ByteArray->Db} (t:Db) (x:ByteArray):zAM (sb τ t) x->∃y,zAM t y/\zAM (τ y) x:=by
 induction t with
 | fr s=>exact fun h=>⟨s,rfl,h⟩
 | app a b iha ihb =>
  rintro (h|h)
  ·obtain⟨y,h1,h2⟩:=iha h;exact⟨y,.inl h1,h2⟩
  ·obtain⟨y,h1,h2⟩:=ihb h;exact⟨y,.inr h1,h2⟩
 | all a ih=>exact fun h=>ih h
 | _=>exact fun h=>h.elim
theorem z0C {τ:ByteArray->Db} (d:DC) (x:ByteArray):qF (sbD .fr τ d) x->∃y,qF d y/\zAM (τ y) x:=by
 induction d with
 | node f n s t g ih =>
  rintro (h|h)
  ·obtain⟨y,h1,h2⟩:=zRA t x h;exact⟨y,.inl h1,h2⟩
  ·obtain⟨y,h1,h2⟩:=ih h;exact⟨y,.inr h1,h2⟩
 | kid p r ihp ihr =>
  rintro (h|h)
  ·obtain⟨y,h1,h2⟩:=ihp h;exact⟨y,.inl h1,h2⟩
  ·obtain⟨y,h1,h2⟩:=ihr h;exact⟨y,.inr h1,h2⟩
 | bind t p r ihp ihr =>
  rintro (h|h|h)
  ·obtain⟨y,h1,h2⟩:=zRA t x h;exact⟨y,.inl h1,h2⟩
  ·obtain⟨y,h1,h2⟩:=ihp h;exact⟨y,.inr (.inl h1),h2⟩
  ·obtain⟨y,h1,h2⟩:=ihr h;exact⟨y,.inr (.inr h1),h2⟩
 | alt f n s k p r ihp ihr =>
  rintro (h|h)
  ·obtain⟨y,h1,h2⟩:=ihp h;exact⟨y,.inl h1,h2⟩
  ·obtain⟨y,h1,h2⟩:=ihr h;exact⟨y,.inr h1,h2⟩
 | _=>exact fun h=>h.elim
noncomputable def tgO (x:ByteArray) (t:Tp) (y:ByteArray):Db:=if y=x then db t [] else .fr y
theorem zPA {c:Cr} {s:ByteArray} {t:Tp} {N:Nat} (hc:c.Ok) (hn:c.isN=true) (hs:c.sz<=N):dbc (stF N c s t) [] []=sbD .fr (tgO s t) (dbc c [] []) :=
 z1Q N c s t [] [] [] (tgO s t) hc hn hs (fun y hy=>by
  have e1:wS y [(s,t)]=if s=y then t else .var y:=by
   unfold wS look look;split<;>rfl
  refine .inr ⟨List.not_mem_nil,fun w hw=>List.not_mem_nil,?_⟩;rw[e1];unfold tgO;by_cases h:s=y
  ·rw[if_pos h,if_pos h.symm]
  ·rw[if_neg h,if_neg fun h2=>h h2.symm];simp[db,memb])
theorem zTV {c:Cr} {s:ByteArray} {t:Tp} {N:Nat} (hc:c.Ok) (hn:c.isN=true) (hs:c.sz<=N) (x:ByteArray) (hx:x∈(stF N c s t).tv):(x≠s/\x∈c.tv)∨(s∈c.tv/\x∈fvT t):=by
 have h1:=zA3 (stF N c s t) [] [] x (xA N c s t hc).2.2;rw[zPA hc hn hs] at h1;obtain⟨y,h2,h3⟩:=z0C _ _ (h1.2 ⟨hx,List.not_mem_nil⟩);have h4:=((zA3 c [] [] y hc).1 h2).1;unfold tgO at h3;by_cases h:y=s
 ·rw[if_pos h] at h3;subst h;exact .inr ⟨h4,((zPB t [] x).1 h3).1⟩
 ·rw[if_neg h] at h3;have h3:x=y:=h3;subst h3;exact .inl ⟨h,h4⟩
theorem Ty5.ren {u:Tp} (h:Ty5 u) (s:ByteArray) {z:ByteArray} (hz:Low 2000 z):Ty5 (sub u [(s,.var z)]):=by
 obtain⟨h1,h2,h3⟩:=h;have d:=zYH (D:=0) u [(s,.var z)] (fun p hp=>by rw[List.mem_singleton.1 hp];exact Nat.le_refl _);have f:=zG2 (l:=fv u) (l':=fv (sub u [(s,.var z)])) (s:=s) (z:=z) (wY _) fun x hx=>by
  rcases zOF hx with h|⟨h4,h5⟩
  ·exact .inl h
  ·exact .inr ⟨h4,by simpa[fv] using h5⟩
 refine⟨zP9 u _ h1 (fun p hp=>by rw[List.mem_singleton.1 hp];exact hz) ?_,Nat.lt_of_le_of_lt (zLA u s z) h2,by omega⟩;have e:(caught [(s,Tp.var z)]).length=1:=by simp[caught,fv]
 rw[e];omega
theorem zBB {R:Tp->Prop} {φ:Cr->Cr} {τ:Tp->Tp} {ν:ByteArray->ByteArray} {α:List ByteArray->Cr->List ByteArray×Cr} (g:Cr):g.isN=false->g.Ok->(∀p∈g.kids,(φ p).TA R)->(∀b∈g.binds,R (τ b.2.1)/\(φ b.2.2).TA R)->(∀a∈g.alts,(α a.2.1 a.2.2).2.TA R)->(zZ φ τ ν α g).TA R:=by
 induction g with
 | nil=>exact fun _ _ _ _ _=>trivial
 | node=>intro h;cases h
 | kid p r _ ih=>exact fun _ ho h1 h2 h3=>⟨h1 p List.mem_cons_self,ih ho.2.1 ho.2.2.2 (fun q hq=>h1 q (List.mem_cons_of_mem _ hq)) h2 h3⟩
 | bind x t p r _ ih=>exact fun _ ho h1 h2 h3=>⟨(h2 _ List.mem_cons_self).1,(h2 _ List.mem_cons_self).2,ih ho.2.1 ho.2.2.2.2 h1 (fun q hq=>h2 q (List.mem_cons_of_mem _ hq)) h3⟩
 | alt f n s vs p r _ ih=>exact fun _ ho h1 h2 h3=>⟨h3 _ List.mem_cons_self,ih ho.2.1 ho.2.2.2.2.2.2 h1 h2 (fun q hq=>h3 q (List.mem_cons_of_mem _ hq))⟩
theorem Wm.of_st {c:Cr} (h:Wm c) {k:Nat} (hk:c.sz<=k) {s z:ByteArray} (ht:(stF k c s (.var z)).TA Ty5):Wm (stF k c s (.var z)):=by
 obtain⟨a1,a2,a3⟩:=xA k c s (.var z) h.ok;have hd:=zLM k c s (.var z);have e2:=zG2 (l:=c.tv) (l':=(stF k c s (.var z)).tv) (s:=s) (z:=z) (zCD _) fun y hy=>by
  rcases zTV h.ok h.n hk y hy with h1|⟨h1,h2⟩
  ·exact .inl h1
  ·exact .inr ⟨h1,by simpa[fvT,fv] using h2⟩
 have hfw:=h.fw;have hvw:=h.vw;exact⟨(zAU k c s _).trans h.n,a3,zG1 k c s _ h.few,ht,by rw[a1];exact h.sz,Nat.le_trans (zT5 k c s z) h.tn,by rw[a2];omega,by omega⟩
theorem Wm.st (k:Nat):∀{c:Cr} (h:Wm c) (s z:ByteArray),c.sz<=k->Low 2000 z->Wm (stF k c s (.var z)):=by
 induction k with
 | zero=>intro c h s z hk;have:=wL h.n;omega
 | succ k ih =>
  intro c h s z hk hz;refine h.of_st hk ?_;by_cases h7:c.f=7
  ·obtain⟨n,s',q,rfl⟩:=zUF h.ok h.n h7;obtain⟨hq,hqs⟩:=h.part (p := .kid 0) (d:=q) rfl;have hqk:q.sz<=k:=by omega
   have hqv:=hq.vw;simp only[stF,if_true];split
   ·exact h.ta
   ·split
    ·have hsub:=zK3 (l:=fvT (.var z)++(Cr.kid q .nil).tv) (m:=z::q.tv) fun x hx=>by
      rcases List.mem_append.1 hx with hx|hx
      ·have:x=z:=by simpa[fvT,fv] using hx
       rw[this];exact List.mem_cons_self
      ·rcases mem_tv_kid.1 hx with hx|hx
       ·exact List.mem_cons_of_mem _ hx
       ·cases hx
     rw[List.length_cons] at hsub;have h1:=ih hq s' (lett (ff (fvT (.var z)++(Cr.kid q .nil).tv))) hqk ⟨_,by omega,rfl⟩;have h2:=ih h1 s z (by rw[(xA k q s' _ hq.ok).1];exact hqk) hz;exact⟨h.ta.1,h2.ta,trivial⟩
    ·exact⟨h.ta.1,(ih hq s z hqk hz).ta,trivial⟩
  ·have hn:=h.n;have hok:=h.ok;have hta:=h.ta;have hpart:=fun {d:Cr} {p:Pp} (hd:zU (zD c) p=some d)=>h.part hd;cases c with
   | node f n y ty g =>
    have h7:¬f=7:=h7;obtain⟨hg,hgo⟩:=zY hok;have e:stF (k+1) (.node f n y ty g) s (.var z) = .node f n y (sub ty [(s,.var z)]) (zZ (fun p=>stF k p s (.var z)) (fun u=>sub u [(s,.var z)]) id (fun vs p=>(vs,stF k p s (.var z))) g):=by simp only[stF];rw[if_neg h7]
    rw[e];have hbt:∀b∈g.binds,Ty5 b.2.1:=zJQ g hta.2;refine⟨hta.1.ren s hz,zBB g hg hgo (fun p hp=>?_) (fun b hb=>⟨(hbt b hb).ren s hz,?_⟩) (fun a ha=>?_)⟩
    ·obtain⟨j,hj,rfl⟩:=List.getElem_of_mem hp;obtain⟨h1,h2⟩:=hpart (p := .kid j) (d:=g.kids[j]) (List.getElem?_eq_getElem hj);exact (ih h1 s z (by omega) hz).ta
    ·obtain⟨j,hj,rfl⟩:=List.getElem_of_mem hb;obtain⟨h1,h2⟩:=hpart (p := .bind j) (d:=g.binds[j].2.2) (by show (g.binds[j]?).map _=_;rw[List.getElem?_eq_getElem hj];rfl);exact (ih h1 s z (by omega) hz).ta
    ·obtain⟨j,hj,rfl⟩:=List.getElem_of_mem ha;obtain⟨h1,h2⟩:=hpart (p := .alt j) (d:=g.alts[j].2.2) (by show (g.alts[j]?).map _=_;rw[List.getElem?_eq_getElem hj];rfl);exact (ih h1 s z (by omega) hz).ta
   | _=>cases hn
set_option maxHeartbeats 8000000
theorem zSE {ad:Ad} {g:List Pn×List Pp} (hgp:g.2.Nodup) (hgn:g.1.Nodup) (hl1:g.1.length<=1000) (hl:g.2.length<=1000000) {Q:Cr->Prop} {y:ByteArray} {b:Cr} {ren:ByteArray->ByteArray->Cr->Cr} {fin:Cr->Cr} (hq:zNT Q y b ren fin)
  {x:Nd} (hok:AdOk ad x) (hP:∀p∈g.2,∃d,zU x p=some d/\Q d) (hN:∀q∈g.1,∃n,yG x q=some n) (tk:List ByteArray) (m:Nat) (hD:∃D:List ByteArray,D.length<=m/\∀z∈tk,z∈D) (hm:m+g.1.length<2500) (htk:tk.length+g.1.length<1000000) (hfar:b.fv.length<1000000) (X:Nd) (hX:X=updP fin g.2 (renL ren b.fv g.2 g.1 tk x)) :
  Wsem Tryz.prog (sn8 (bodyC Tryz.f58)) (mkC {vs:=[(1,.v (str y)),(3,.v (.ptr (eGp ad g).cells)),(5,.box 0 (eC b)),(6,.v (.sl (eSs tk))),(11,.v (.sl (eSs b.fv))),(12,.v (.fn (.func 104) [] [.ptr (eGp ad g).cells]))],ow:=[(6,0,2)],hp:=HP ad x})
   (fun c2=>yX tt Tryz.f58.results.toList (fun r o h=>o=0/\h=HP ad X) (den c2)) (fun _ _=>False) (fun c2=>yX tt Tryz.f58.results.toList (fun r o h=>o=0/\h=HP ad X) (den c2)):=by
 refine Wsem.seqS (Wsem.seqS (Wsem.of ttok mixed ?_));refine Wsem.block (Wsem.loop (α:={p:Nat×List ByteArray×Nd // p.1<=g.1.length/\AdOk ad p.2.2/\p.2.1.length<=tk.length+p.1/\(∃D:List ByteArray,D.length<=m+p.1/\∀z∈p.2.1,z∈D)/\renL ren b.fv g.2 (g.1.drop p.1) p.2.1 p.2.2=renL ren b.fv g.2 g.1 tk x/\(∀q∈g.2,∃d,zU p.2.2 q=some d/\Q d)/\∀q∈g.1.drop p.1,∃n,yG p.2.2 q=some n})
  (fun p=>{vs:=[(1,.v (str y)),(3,.v (.ptr (eGp ad g).cells)),(5,.box 0 (eC b)),(6,.v (.sl (eSs p.1.2.1))),(11,.v (.sl (eSs b.fv))),(12,.v (.fn (.func 104) [] [.ptr (eGp ad g).cells])),(60,.v (.sl (g.1.map (ptN ad)))),(61,sv (g.1.length:Nat)),(62,sv (p.1.1:Nat))],ow:=[(6,0,2)],hp:=HP ad p.1.2.2})
  (fun p=>g.1.length-p.1.1) ⟨(0,tk,x),Nat.zero_le _,hok,by simp,hD,rfl,hP,hN⟩ ⟨⟨rfl,rfl,rfl,rfl,rfl,rfl,rfl,?_,rfl,trivial⟩,⟨rfl,trivial⟩,rfl⟩ ?_)
 ·show sv _=sv _;simp
 rintro⟨⟨j,tj,xj⟩,hjj,hoj,htj,⟨D,hDl,hDm⟩,hrj,hPj,hNj⟩;simp only at hjj hoj htj hDl hDm hrj hPj hNj;refine Wsem.seq ttok mixed ?_;refine Wsem.seq ttok mixed ?_;refine⟨fun h0=>?_,fun h0=>?_⟩
 ·have h:j<g.1.length:=by have h:=of_decide_eq_true h0;simp only at h;omega
  clear h0;have hp:=List.getElem?_eq_getElem h;have hdr:=List.drop_eq_getElem_cons h;obtain⟨n,hn⟩:=hNj g.1[j] (by rw[hdr];exact List.mem_cons_self);have hne:∀q∈g.1.drop (j+1),g.1[j]≠q:=by
   have:=hgn;rw[<-List.take_append_drop j g.1,hdr] at this;have h3:=(List.nodup_cons.1 (List.nodup_append.1 this).2.1).1;exact fun q hq e=>h3 (e ▸ hq)
  rw[hdr] at hrj;have hNd:∀q∈g.1.drop (j+1),∃n,yG xj q=some n:=fun q hq=>hNj q (by rw[hdr];exact List.mem_cons_of_mem _ hq);simp only[renL,hn] at hrj;generalize g.1[j]=pn at hp hn hne hrj;obtain⟨i,l,r1,r2,r3,r4⟩:=zC3 hoj hn;refine Wsem.seqS (Wsem.block ?_);refine Wsem.seq ttok mixed ?_;refine⟨_,by omega,by show (g.1.map (ptN ad))[(j:Int).toNat]? = _;rw[show (j:Int).toNat=j from rfl,List.getElem?_map,hp];rfl,rfl,?_⟩;refine Wsem.seq ttok mixed ?_;refine⟨i,l,_,r1,r3,?_⟩;refine .inl ⟨_,yJ (l:=b.fv) (s:=n) (by omega),?_⟩;refine Wsem.cond rfl (fun hm=>?_) (fun hm=>?_)
  ·have hm:n∈b.fv:=memb_iff.1 hm;rw[if_pos hm] at hrj;have hff:=zK3 hDm;obtain⟨z,hz⟩:∃z,z=lett (ff tj):=⟨_,rfl⟩
   have hfr:=zGG tj (by omega) (by omega);rw[<-hz] at hfr hrj;have hput:CallsG Tryz.prog (fnv 104) (HP ad xj) [str n,eC (vr z),.ptr (eGp ad g).cells] [] fun r o h=>o=0/\h=HP ad (updP (ren n z) g.2 xj):=zJJ hoj hgp hl n (vr z) (ren n z) fun p hp=>by
    obtain⟨d,h1,h2⟩:=hPj p hp;exact⟨d,h1,(hq.ren d n z h2).1⟩
   have hoj2:AdOk ad (updP (ren n z) g.2 xj):=hoj.updP;have hn2:yG (updP (ren n z) g.2 xj) pn=some n:=by rw[y8];exact hn
   obtain⟨i2,l2,s1,s2,s3,s4⟩:=zC3 hoj2 hn2;refine Wsem.seq ttok mixed ?_;refine .inl ⟨_,hfr,?_⟩;refine Wsem.seq ttok mixed ?_;refine⟨by show (eSs tj).length+1<=_;simp[eSs];omega,xK _,xK [z],?_⟩;refine Wsem.seqS (Wsem.regionTA zAD ttok mixed [0,1,2,3,4,5,6] [false,false,false,false,false,false,true] (by kernel_rfl) ?_);refine⟨i,l,_,r1,r3,?_⟩;refine .inl ⟨_,zB8 z,?_⟩;refine⟨List.range (HP ad xj).length,HP ad xj,_,yT _,List.nodup_range,hput,⟨.nil,_,_,rfl,rfl⟩,?_⟩;rintro r o h1 ⟨rfl,rfl⟩;refine⟨by kernel_rfl,?_⟩;have hh:zS (List.range (HP ad xj).length) (HP ad xj)++HP ad (updP (ren n z) g.2 xj)=HP ad (updP (ren n z) g.2 xj):=by rw[xC,List.nil_append]
   refine Wsem.of ttok mixed ?_;refine⟨rfl,i2,l2,by show (zS (List.range (HP ad xj).length) (HP ad xj)++HP ad (updP (ren n z) g.2 xj))[i2]? = _;rw[hh];exact s1,s2,?_⟩;refine Wsem.of ttok mixed ?_;refine⟨⟨(j+1,tj++[z],zFJ (updP (ren n z) g.2 xj) pn z),h,(s4 z).2,by simp;omega,⟨z::D,by simp only[List.length_cons];omega,fun w hw=>by
    rcases List.mem_append.1 hw with hw|hw
    ·exact List.mem_cons_of_mem _ (hDm w hw)
    ·rw[List.mem_singleton.1 hw];exact List.mem_cons_self⟩,hrj,fun q hq2=>?_,fun q hq2=>?_⟩,by show g.1.length-(j+1)<g.1.length-j;omega,⟨rfl,rfl,rfl,?_,rfl,rfl,rfl,rfl,svc (wrap_succ (k:=j) (by omega)),trivial⟩,⟨rfl,trivial⟩,?_⟩
   ·obtain⟨d,h1,h2⟩:=hPj q hq2;exact⟨ren n z d,by simp only;rw[zEO];exact zGV hgp hq2 h1,(hq.ren d n z h2).2⟩
   ·obtain⟨n2,h2⟩:=hNd q hq2;exact⟨n2,by simp only;rw[zCO hn2,if_neg (hne q hq2),y8];exact h2⟩
   ·show SV.v (.sl (eSs tj++[str z]))=SV.v (.sl (eSs (tj++[z])));simp[eSs]
   ·show (zS (List.range (HP ad xj).length) (HP ad xj)++HP ad (updP (ren n z) g.2 xj)).set i2 ((adN ad pn).1,HO.cells (setAt l2 (adN ad pn).2 [str z]))=_;rw[hh];exact (s4 z).1
  ·have hm:n∉b.fv:=fun h=>by rw[memb_iff.2 h] at hm;cases hm
   rw[if_neg hm] at hrj;refine Wsem.of ttok mixed ?_;refine Wsem.of ttok mixed ?_;refine⟨⟨(j+1,tj,xj),h,hoj,by simp only;omega,⟨D,by simp only;omega,hDm⟩,hrj,hPj,hNd⟩,by show g.1.length-(j+1)<g.1.length-j;omega,⟨rfl,rfl,rfl,rfl,rfl,rfl,rfl,rfl,svc (wrap_succ (k:=j) (by omega)),trivial⟩,⟨rfl,trivial⟩,rfl⟩
 ·have h:j=g.1.length:=by have h:=of_decide_eq_false h0;simp only at h;omega
  subst h;rw[List.drop_length] at hrj;have hrj:xj=renL ren b.fv g.2 g.1 tk x:=hrj;rw[<-hrj] at hX;refine Wsem.of ttok mixed ?_;refine .inr (.inr ⟨List.range (HP ad xj).length,HP ad xj,_,yT _,List.nodup_range,zJJ hoj hgp hl y b fin (fun p hp=>?_),?_⟩)
  ·obtain⟨d,h1,h2⟩:=hPj p hp;exact⟨d,h1,hq.fin d h2⟩
  rintro r o h ⟨rfl,rfl⟩;refine⟨rfl,?_⟩;show zS (List.range _) (HP ad xj)++HP ad (updP fin g.2 xj)=_;rw[xC,List.nil_append,hX]
theorem z2N {ad:Ad} {g:List Pn×List Pp} (hgp:g.2.Nodup) (hgn:g.1.Nodup) (hl1:g.1.length<=1000) (hl:g.2.length<=1000000) {Q:Cr->Prop} {y:ByteArray} {b:Cr} {ren:ByteArray->ByteArray->Cr->Cr} {fin:Cr->Cr} (hq:zNT Q y b ren fin)
  {x:Nd} (hok:AdOk ad x) (hP:∀p∈g.2,∃d,zU x p=some d/\Q d) (hN:∀q∈g.1,∃n,yG x q=some n) (m:Nat) (hD:∃D:List ByteArray,D.length<=m/\∀z∈frX x g.2++nsX x g.1++b.fv,z∈D) (hm:m+g.1.length<2500) (hsz:(frX x g.2).length+2*g.1.length+b.fv.length<900000) :
  CallsG Tryz.prog (fnv 58) (HP ad x) [eGp ad g,str y,eC b] [] fun r o h=>o=0/\h=HP ad (putX ren fin b.fv y g x):=by
 refine zL (first:=[]) (cap:=[]) ttok mixed Tryz.func58 rfl (by rfl) rfl (Nat.le_of_ble_eq_true rfl) (by kernel_rfl) ?_;refine Wsem.seq ttok mixed ?_;refine Wsem.seq ttok mixed ?_;refine Wsem.seq ttok mixed ?_;refine⟨{j:Nat // j<=g.2.length},fun j=>{vs:=[(1,.v (str y)),(3,.box 0 (eGp ad g)),(5,.box 0 (eC b)),(6,.v (.sl (eSs (frX x (g.2.take j.1))))),(17,.v (.sl (g.2.map (ptP ad)))),(18,sv (g.2.length:Nat)),(19,sv (j.1:Nat))],ow:=[(6,0,2)],hp:=HP ad x},
  fun j=>g.2.length-j.1,⟨0,Nat.zero_le _⟩,⟨⟨rfl,rfl,rfl,rfl,rfl,?_,rfl,trivial⟩,⟨trivial,trivial⟩,rfl⟩,?_⟩
 ·show sv _=sv _;simp
 rintro⟨j,hjj⟩;refine⟨fun h=>?_,fun h=>?_⟩
 ·have h:j<g.2.length:=by have h:=of_decide_eq_true h;simp only at h;omega
  have hp:=List.getElem?_eq_getElem h;obtain⟨d,hd,hQ⟩:=hP _ (List.getElem_mem h);have hsn:frX x (g.2.take (j+1))=frX x (g.2.take j)++d.fv:=by
   have hfv:fvP x g.2[j]=d.fv:=by unfold fvP;rw[hd]
   rw[List.take_succ_eq_append_getElem h];unfold frX;rw[List.flatMap_append];simp only[List.flatMap_cons,List.flatMap_nil,List.append_nil,hfv]
  have hle:(frX x (g.2.take (j+1))).length<=(frX x g.2).length:=by
   have:frX x g.2=frX x (g.2.take (j+1))++frX x (g.2.drop (j+1)):=by
    unfold frX;rw[<-List.flatMap_append,List.take_append_drop]
   rw[this,List.length_append];omega
  rw[hsn,List.length_append] at hle;generalize g.2[j]=p at hp hd;obtain⟨i,l,r1,r2,r3,r4⟩:=qM hok hd;refine⟨_,by omega,by show (g.2.map (ptP ad))[(j:Int).toNat]? = _;rw[show (j:Int).toNat=j from rfl,List.getElem?_map,hp];rfl,rfl,?_⟩;refine⟨i,l,r1,r2,?_⟩;refine .inr (.inl ⟨.sl (eSs d.fv),by rw[r3];exact hq.free d hQ,?_⟩);refine⟨by show (eSs (frX x (g.2.take j))).length+(eSs d.fv).length<=_;simp only[eSs,List.length_map];omega,xK _,xK _,?_⟩;refine⟨⟨j+1,h⟩,by simp;omega,⟨rfl,rfl,rfl,?_,rfl,rfl,svc (wrap_succ (k:=j) (by omega)),trivial⟩,⟨rfl,trivial⟩,rfl⟩;show SV.v (.sl (eSs (frX x (g.2.take j))++eSs d.fv))=SV.v (.sl (eSs (frX x (g.2.take (j+1)))));rw[hsn];simp[eSs]
 ·have h:j=g.2.length:=by have h:=of_decide_eq_false h;simp only at h;omega
  subst h;obtain⟨fr,hfr⟩:∃fr,fr=frX x g.2:=⟨_,rfl⟩
  refine Wsem.cut {vs:=[(1,.v (str y)),(3,.box 0 (eGp ad g)),(5,.box 0 (eC b)),(6,.v (.sl (eSs fr)))],ow:=[(6,0,2)],hp:=HP ad x} ⟨⟨rfl,rfl,rfl,by show SV.v (.sl (eSs (frX x (g.2.take g.2.length))))=_;rw[List.take_length,hfr],trivial⟩,⟨rfl,trivial⟩,rfl⟩ ?_;rw[<-hfr] at hsz hD;refine Wsem.seq ttok mixed ?_;refine .inl ⟨_,yJ (l:=fr) (s:=y) (by omega),?_⟩;refine⟨fun h=>?_,fun h=>?_⟩
  ·have h:y∉fr:=fun hm=>by rw[memb_iff.2 hm] at h;cases h
   refine⟨rfl,?_⟩;show HP ad x=_;unfold putX;rw[<-hfr,if_neg (fun e=>h e.1)]
  ·have hy:y∈fr:=memb_iff.1 (by cases hm:memb y fr with|true=>rfl|false=>rw[hm] at h;cases h);refine Wsem.seq ttok mixed ?_;refine⟨{j:Nat // j<=g.1.length/\y∉nsX x (g.1.take j)},fun j=>{vs:=[(1,.v (str y)),(3,.box 0 (eGp ad g)),(5,.box 0 (eC b)),(6,.v (.sl (eSs (fr++nsX x (g.1.take j.1))))),(35,.v (.sl (g.1.map (ptN ad)))),(36,sv (g.1.length:Nat)),(37,sv (j.1:Nat))],ow:=[(6,0,2)],hp:=HP ad x},
    fun j=>g.1.length-j.1,⟨0,Nat.zero_le _,by simp⟩,⟨⟨rfl,rfl,rfl,?_,rfl,?_,rfl,trivial⟩,⟨rfl,trivial⟩,rfl⟩,?_⟩
   ·show SV.v (.sl (eSs fr))=SV.v (.sl (eSs (fr++[])));rw[List.append_nil]
   ·show sv _=sv _;simp
   rintro⟨j,hjj,hyj⟩;refine⟨fun h2=>?_,fun h2=>?_⟩
   ·have h2:j<g.1.length:=by have h:=of_decide_eq_true h2;simp only at h;omega
    have hp:=List.getElem?_eq_getElem h2;obtain⟨n,hn⟩:=hN _ (List.getElem_mem h2);have hsn:nsX x (g.1.take (j+1))=nsX x (g.1.take j)++[n]:=by
     have hnm:nmN x g.1[j]=n:=by unfold nmN;rw[hn]
     rw[List.take_succ_eq_append_getElem h2];unfold nsX;rw[List.map_append];simp only[List.map_cons,List.map_nil,hnm]
    have hin:n∈nsX x g.1:=List.mem_map.2 ⟨_,List.getElem_mem h2,by simp[nmN,hn]⟩;generalize g.1[j]=p at hp hn;obtain⟨i,l,r1,r2,r3,r4⟩:=zC3 hok hn;refine⟨_,by omega,by show (g.1.map (ptN ad))[(j:Int).toNat]? = _;rw[show (j:Int).toNat=j from rfl,List.getElem?_map,hp];rfl,rfl,?_⟩;refine⟨i,l,_,r1,r3,?_⟩;refine⟨fun h3=>?_,fun h3=>?_⟩
    ·have h3:n=y:=by simpa using h3
     refine⟨rfl,?_⟩;show HP ad x=_;unfold putX;rw[if_neg (fun e=>e.2 (h3 ▸ hin))]
    ·have h3:n≠y:=by simpa using h3
     refine⟨i,l,_,r1,r3,?_⟩;refine⟨by show (eSs (fr++nsX x (g.1.take j))).length+1<=_;simp[eSs];omega,xK _,xK [n],?_⟩;refine⟨⟨j+1,h2,by rw[hsn];simp only[List.mem_append,List.mem_singleton];exact fun e=>e.elim hyj (fun e=>h3 e.symm)⟩,by simp;omega,⟨rfl,rfl,rfl,?_,rfl,rfl,svc (wrap_succ (k:=j) (by omega)),trivial⟩,⟨rfl,trivial⟩,rfl⟩;show SV.v (.sl (eSs (fr++nsX x (g.1.take j))++[str n]))=SV.v (.sl (eSs (fr++nsX x (g.1.take (j+1)))));rw[hsn];simp[eSs]
   ·have h:j=g.1.length:=by have h:=of_decide_eq_false h2;simp only at h;omega
    subst h;rw[List.take_length] at hyj;refine Wsem.cut {vs:=[(1,.v (str y)),(3,.box 0 (eGp ad g)),(5,.box 0 (eC b)),(6,.v (.sl (eSs (fr++nsX x g.1))))],ow:=[(6,0,2)],hp:=HP ad x} ⟨⟨rfl,rfl,rfl,by show SV.v (.sl (eSs (fr++nsX x (g.1.take g.1.length))))=_;rw[List.take_length],trivial⟩,⟨rfl,trivial⟩,rfl⟩ ?_;refine Wsem.seq ttok mixed ?_;refine .inl ⟨_,hq.freeB,?_⟩;refine Wsem.seq ttok mixed ?_;refine⟨by show (eSs (fr++nsX x g.1)).length+(eSs b.fv).length<=_;simp[eSs];omega,xK _,xK _,?_⟩;refine Wsem.seq ttok mixed ?_;refine .inl ?_;refine Wsem.cut _ ?_ (zSE hgp hgn hl1 hl hq hok hP hN (fr++nsX x g.1++b.fv) m hD hm (by simp[nsX];omega) (by omega) (putX ren fin b.fv y g x) (by unfold putX;rw[<-hfr,if_pos ⟨hy,hyj⟩]));refine⟨⟨rfl,rfl,rfl,?_,rfl,rfl,trivial⟩,⟨rfl,trivial⟩,rfl⟩;show SV.v (.sl (eSs (fr++nsX x g.1)++eSs b.fv))=SV.v (.sl (eSs (fr++nsX x g.1++b.fv)));simp[eSs]
end Go.Proofs.YtgonkhaebmfgiaaGreatDoor
