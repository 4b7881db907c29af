/- What is made, and what is put into it, has few names at each place. Plain. No condition. -/
import Derived.Test.YtgonkhaebmfgiaaGreatDoorW
import Derived.Test.YtgonkhaebmfgiaaGreatDoorT
set_option linter.unusedSimpArgs false
set_option linter.unusedVariables false
namespace Go.Proofs.YtgonkhaebmfgiaaGreatDoor
open Go Fp
set_option maxRecDepth 10000
set_option maxHeartbeats 4000000
set_option linter.unusedVariables false
theorem zGI (t : Tp) : good t -> ∀ y ∈ fv t, y ∈ xW := by
  induction t with
  | var s => intro h y hy; have : y = s := by simpa [fv] using hy
             rw [this]; exact h
  | app a b iha ihb => intro h y hy; exact (mem_fv_app.1 hy).elim (iha h.1 y) (ihb h.2 y)
  | all s a ih => intro h y hy; exact ih h.2 y (mem_fv_all.1 hy).1
  | _ => intro _ y hy; cases hy
theorem z9O (c:Cr):c.Pk->∀y∈c.tv,y∈xW:=by
 induction c with
 | nil=>intro _ y hy;cases hy
 | node f n s t g ih =>
  intro h y hy;rcases mem_tv_node.1 hy with h1|⟨h1,_⟩
  ·rcases h.2.2.2.1 with h2|⟨h2,_⟩
   ·exact zGI t h2 y h1
   ·rw[h2] at h1;cases h1
  ·exact ih h.2.2.2.2 y h1
 | kid p r ihp ih=>intro h y hy;exact (mem_tv_kid.1 hy).elim (ihp h.1 y) (ih h.2 y)
 | bind x t p r ihp ih =>
  intro h y hy;rcases mem_tv_bind.1 hy with h1|h1|h1
  ·exact zGI t h.2.1 y h1
  ·exact ihp h.2.2.1 y h1
  ·exact ih h.2.2.2 y h1
 | alt f n s vs p r ihp ih=>intro h y hy;exact (mem_tv_alt.1 hy).elim (ihp h.2.2.2.2.1 y) (ih h.2.2.2.2.2 y)
def Gt (t:Tp):Prop:=LowT 2000 t/\t.sz<=376/\(fv t).length<=4
theorem Gt.ty5 {t:Tp} (h:Gt t):Ty5 t:=⟨h.1,by have:=h.2.1;omega,by have:=h.2.1;have:=h.2.2;have:=zR8 t;omega⟩
theorem Gt.of {t:Tp} (h:good t∨t = .no) (hl:LowT 2000 t) (hs:t.sz<=376):Gt t:=⟨hl,hs,by
 rcases h with h|rfl
 ·exact yZ (fv t) xW (wY t) (zGI t h)
 ·decide⟩
theorem z1Y (c:Cr):c.wt<=376->c.LowC 2000->c.Pk->c.TA Gt:=by
 induction c with
 | nil=>exact fun _ _ _=>trivial
 | node f n s t g ih=>intro h hl hp;simp only[Cr.wt] at h;exact⟨.of (hp.2.2.2.1.imp id (·.1)) hl.1 (by omega),ih (by omega) hl.2 hp.2.2.2.2⟩
 | kid p r ihp ih=>intro h hl hp;simp only[Cr.wt] at h;exact⟨ihp (by omega) hl.1 hp.1,ih (by omega) hl.2 hp.2⟩
 | bind x t p r ihp ih=>intro h hl hp;simp only[Cr.wt] at h;exact⟨.of (.inl hp.2.1) hl.1 (by omega),ihp (by omega) hl.2.1 hp.2.2.1,ih (by omega) hl.2.2 hp.2.2.2⟩
 | alt f n s vs p r ihp ih=>intro h hl hp;simp only[Cr.wt] at h;exact⟨ihp (by omega) hl.1 hp.2.2.2.2.1,ih (by omega) hl.2 hp.2.2.2.2.2⟩
structure Nw (c:Cr):Prop where
 fv:∀y∈c.fv,y∈W18
 tv:∀y∈c.tv,y∈xW
theorem Nw.len {c:Cr} (h:Nw c):c.fv.length<=20/\c.tv.length<=4:=⟨yZ _ W18 (zE4 c) h.fv,yZ _ xW (zCD c) h.tv⟩
theorem zVG {c:Cr} (hs:Sm c) (hp:c.Pk) (hw:c.wt<=376) (hz:c.sz<=117):Wm c/\Nw c/\dpC c<=c.wt:=by
 have hn:Nw c:=⟨zaB c hp,z9O c hp⟩
 obtain⟨h1,h2⟩:=hn.len;have h3:=z9W c hs.ok;have h4:=zGM c;rw[hs.n] at h3;simp only[if_true] at h3;exact⟨⟨hs.n,hs.ok,hs.gd.few,(z1Y c hw hs.low hp).mono fun t h=>h.ty5,by omega,by omega,by omega,by omega⟩,hn,by omega⟩
theorem z6R (k:Nat):∀(c:Cr) (x:ByteArray) (b:Cr),Wm c->Wm b->c.sz<=k->(sbF k c x b).TA Ty5:=by
 induction k with
 | zero=>intro c x b h _ hk;have:=wL h.n;omega
 | succ k ih =>
  intro c x b h hb hk;have hn:=h.n;have hok:=h.ok;have hta:=h.ta;have hbv:=hb.vw;have hren:∀(rs:List (ByteArray×ByteArray)) (p:Cr),Wm p->p.sz<=k->Wm (rs.foldl (fun p q=>sbF k p q.1 (vr q.2)) p)/\(rs.foldl (fun p q=>sbF k p q.1 (vr q.2)) p).sz<=k:=by
   intro rs;induction rs with
   | nil=>exact fun p h1 h2=>⟨h1,h2⟩
   | cons q rs ihr=>intro p h1 h2;obtain⟨g1,g2⟩:=h1.sb k h2 q.1 q.2;exact ihr _ g1 (by show (sbF k p q.1 (vr q.2)).sz<=k;omega)
  have hput:∀(rs:List (ByteArray×ByteArray)) (p:Cr),Wm p->p.sz<=k->(sbF k (rs.foldl (fun p q=>sbF k p q.1 (vr q.2)) p) x b).TA Ty5:=fun rs p h1 h2=>by
   obtain⟨g1,g2⟩:=hren rs p h1 h2;exact ih _ x b g1 hb g2
  have hpart:=fun {d:Cr} {p:Pp} (hd:zU (zD c) p=some d)=>h.part hd;cases c with
  | node f n s t g =>
   obtain⟨hg,hgo⟩:=zY hok;have hk1:∀p∈g.kids,Wm p/\p.sz<=k:=fun p hp=>by
    obtain⟨j,hj,rfl⟩:=List.getElem_of_mem hp;obtain⟨h1,h2⟩:=hpart (p := .kid j) (d:=g.kids[j]) (List.getElem?_eq_getElem hj);exact⟨h1,by omega⟩
   have hk2:∀b∈g.binds,Wm b.2.2/\b.2.2.sz<=k:=fun b hb=>by
    obtain⟨j,hj,rfl⟩:=List.getElem_of_mem hb;obtain⟨h1,h2⟩:=hpart (p := .bind j) (d:=g.binds[j].2.2) (by show (g.binds[j]?).map _=_;rw[List.getElem?_eq_getElem hj];rfl);exact⟨h1,by omega⟩
   have hk3:∀a∈g.alts,Wm a.2.2/\a.2.2.sz<=k:=fun a ha=>by
    obtain⟨j,hj,rfl⟩:=List.getElem_of_mem ha;obtain⟨h1,h2⟩:=hpart (p := .alt j) (d:=g.alts[j].2.2) (by show (g.alts[j]?).map _=_;rw[List.getElem?_eq_getElem hj];rfl);exact⟨h1,by omega⟩
   have hbt:∀b∈g.binds,Ty5 b.2.1:=zJQ g hta.2;have hα:∀a∈g.alts,(wE (fun rs p=>sbF k (rs.foldl (fun p q=>sbF k p q.1 (vr q.2)) p) x b) x b.fv a.2.1 a.2.2).2.TA Ty5:=fun a ha=>by
    unfold wE;split
    ·exact (hk3 a ha).1.ta
    ·exact hput _ _ (hk3 a ha).1 (hk3 a ha).2
   unfold sbF;split
   ·split
    ·exact hb.ta
    ·exact hta
   ·split
    ·rename_i h7;split
     ·split
      ·refine⟨hta.1,zBB g hg hgo (fun p hp=>?_) (fun b' hb'=>?_) (fun a ha=>(hk3 a ha).1.ta)⟩
       ·obtain⟨h1,h2⟩:=hk1 p hp;have hgt:=zK3 (l:=b.tv++g.tv) (m:=b.tv++(s::(Cr.node f n s t g).tv)) fun y hy=>by
         rcases List.mem_append.1 hy with hy|hy
         ·exact List.mem_append_left _ hy
         ·refine List.mem_append_right _ ?_;by_cases e:y=s
          ·rw[e];exact List.mem_cons_self
          ·exact List.mem_cons_of_mem _ (mem_tv_node.2 (.inr ⟨hy,fun e2=>e e2.2⟩))
        have hv:=h.vw;rw[List.length_append,List.length_cons] at hgt;have h3:=Wm.st k h1 s (lett (ff (b.tv++g.tv))) h2 ⟨_,by omega,rfl⟩;exact ih _ x b h3 hb (by rw[(xA k p s _ h1.ok).1];exact h2)
       ·have e:f=8:=hok.2.2.2.2.1 fun e=>by rw[e] at hb';cases hb'
        omega
      ·exact⟨hta.1,zBB g hg hgo (fun p hp=>ih _ x b (hk1 p hp).1 hb (hk1 p hp).2) (fun b' hb'=>⟨hbt b' hb',ih _ x b (hk2 b' hb').1 hb (hk2 b' hb').2⟩) (fun a ha=>(hk3 a ha).1.ta)⟩
     ·exact hta
    ·split
     ·exact⟨hta.1,zBB g hg hgo (fun p hp=>(hk1 p hp).1.ta) (fun b' hb'=>⟨hbt b' hb',(hk2 b' hb').1.ta⟩) hα⟩
     ·exact⟨hta.1,zBB g hg hgo (fun p hp=>hput _ _ (hk1 p hp).1 (hk1 p hp).2) (fun b' hb'=>⟨hbt b' hb',hput _ _ (hk2 b' hb').1 (hk2 b' hb').2⟩) hα⟩
  | _=>cases hn
theorem z8Z {N:Nat} {c b:Cr} (x:ByteArray) (hc:Wm c) (hb:Wm b) (hk:c.sz<=N) (nc:Nw c) (nb:Nw b) (C B T U:Nat) (hz1:c.sz<=C) (hz2:b.sz<=B) (ht1:c.tn<=T) (ht2:b.tn<=U) (hd:dpC c+dpC b<=680) (h3:C+C*B<=10000) (h4:T+C*U<=60000) :
  Wm (sbF N c x b)/\Nw (sbF N c x b)/\(sbF N c x b).sz<=C+C*B/\dpC (sbF N c x b)<=dpC c+dpC b/\(sbF N c x b).tn<=T+C*U:=by
 obtain⟨q1,q2,_⟩:=qK N c x b hc.n hc.ok hb.n hb.ok;have hn:Nw (sbF N c x b):=⟨fun y hy=>by
  rcases (zJ1 (zT1 N) hc.ok hc.n hb.ok hb.n hk y).1 hy with⟨_,h⟩|⟨_,h⟩
  ·exact nc.fv y h
  ·exact nb.fv y h,fun y hy=>by
  rcases z0E hc.ok hc.n hb.ok hb.n hk y hy with h|⟨_,h⟩
  ·exact nc.tv y h
  ·exact nb.tv y h⟩
 obtain⟨l1,l2⟩:=hn.len;have hsz:=z4D (x:=x) hc.ok hc.n hb.ok hb.n hk;have hof:=z7R hc.ok x;have hm1:oft c x*b.sz<=C*B:=Nat.mul_le_mul (by omega) hz2;have htn:=z6A (dbc c [] []) x (dbc b [] []) (sgO x b) (if_pos rfl) (fun y hy=>if_neg hy);rw[<-zLO hc.ok hc.n hb.ok hb.n hk,zOY _ _ _ q2,zOY _ _ _ hc.ok,zOY _ _ _ hb.ok] at htn;have hm2:oft c x*b.tn<=C*U:=Nat.mul_le_mul (by omega) ht2;unfold oft at hm2;have hdp:=zZM N c x b;refine⟨⟨q1,q2,zPE N c x b hc.few hb.few,z6R N c x b hc hb hk,by omega,by omega,by omega,by omega⟩,hn,by omega,hdp,by omega⟩
set_option maxHeartbeats 16000000
end Go.Proofs.YtgonkhaebmfgiaaGreatDoor
